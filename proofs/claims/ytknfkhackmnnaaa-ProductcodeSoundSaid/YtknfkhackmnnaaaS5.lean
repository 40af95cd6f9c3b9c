import Derived.Test.YtknfkhackmnnaaaG5
import Derived.Laws.CopyOwn
set_option maxRecDepth 100000
set_option linter.unusedVariables false
set_option linter.unusedSimpArgs false
namespace Go.Proofs.Ytknfkhackmnnaaa
open Go.RowKit Go.Deep
set_option maxRecDepth 100000 in
theorem clone_any (p : List UInt8) (hp : 0 < p.length) (hpl : p.length ≤ 1000) (bp op cp : Nat) (w : World) (h1 : Rd w bp op p) :
    Calls Try.prog 106 #[.slice (some ⟨bp, op, none⟩) p.length cp] w fun e w' => RetOwn w p e w' := by
  have hbp := h1.lt hp
  have hnil := fun W => Lib.run_eql_slice_nil (P := Try.prog) W 43 5 (some ⟨bp, op, none⟩) p.length cp 0 0 Try.underlying43
  go_enter Try.func106, Try.ntmps106
  go_wp2_with (at_builtin; refine app_bytes _ Try.underlying43 rfl _ _ rfl w.heap.size _ [] rfl (Ob.empty (Nat.le_refl _)) bp op cp _ p rfl rfl ?hr ?hl ?hb ?_)
  case hr => exact h1.below ((Below.refl _ _).alloc (Nat.le_refl _) _) hbp
  case hl => simp; omega
  case hb => simp
  intro v1 w3 hOb hKeep _ _
  obtain ⟨g3, c3, rfl, hgb3, hrow3, hcl3⟩ := hOb.row hp
  have hB3 := hKeep _ _ ((Below.refl _ _).alloc (Nat.le_refl _) _) (Nat.le_refl _)
  go_wp2
  go_ret
  exact ⟨g3, c3, rfl, hrow3, hgb3, hcl3, hB3⟩
set_option maxRecDepth 100000 in
theorem clone_poly (p : List UInt8) (hp : 0 < p.length) (hpl : p.length ≤ 1000) (bp op cp : Nat) (w : World) (h1 : Rd w bp op p) :
    Calls Try.prog 110 #[.slice (some ⟨bp, op, none⟩) p.length cp] w fun e w' => RetOwn w p e w' := by
  have hbp := h1.lt hp
  have hnil := fun W => Lib.run_eql_slice_nil (P := Try.prog) W 112 5 (some ⟨bp, op, none⟩) p.length cp 0 0 Try.underlying112
  go_enter Try.func110, Try.ntmps110
  go_wp2_with (at_builtin; refine app_bytes _ Try.underlying112 rfl _ _ rfl w.heap.size _ [] rfl (Ob.empty (Nat.le_refl _)) bp op cp _ p rfl rfl ?hr ?hl ?hb ?_)
  case hr => exact h1.below ((Below.refl _ _).alloc (Nat.le_refl _) _) hbp
  case hl => simp; omega
  case hb => simp
  intro v1 w3 hOb hKeep _ _
  obtain ⟨g3, c3, rfl, hgb3, hrow3, hcl3⟩ := hOb.row hp
  have hB3 := hKeep _ _ ((Below.refl _ _).alloc (Nat.le_refl _) _) (Nat.le_refl _)
  go_wp2
  go_ret
  exact ⟨g3, c3, rfl, hrow3, hgb3, hcl3, hB3⟩
/-- all bytes are 0 -/
def zeroL (l : List UInt8) : Bool := l.all (· == 0)
theorem zeroL_iff (l : List UInt8) : zeroL l = true ↔ ∀ j, j < l.length → Gf.co l j = 0 := by
  unfold zeroL
  rw [List.all_eq_true]
  constructor
  · intro h j hj
    rw [Gf.co_lt hj]
    simpa using h _ (List.getElem_mem hj)
  · intro h x hx
    obtain ⟨j, hj, rfl⟩ := List.getElem_of_mem hx
    have := h j hj
    rw [Gf.co_lt hj] at this
    simp [this]
set_option maxRecDepth 100000 in
theorem zero1_any (a : UInt8) (w : World) : Calls Try.prog 108 #[B a] w fun e w' => e = .returned (.bool (a != 0)) ∧ w = w' := by
  have h : ((a.toNat : Int) != 0) = (a != 0) := by
    rw [Bool.eq_iff_iff, bne_iff_ne, bne_iff_ne]
    exact not_congr ⟨fun h => u8_inj h, fun h => by rw [h]; rfl⟩
  have H := Lib.hid h
  clear h
  go_enter Try.func108, Try.ntmps108
  go_wp2
  go_ret
  exact ⟨by rw [← H.out]; rfl, rfl⟩
set_option maxRecDepth 100000 in
theorem indexfunc_zero (p : List UInt8) (hp : 0 < p.length) (hpl : p.length ≤ 1000) (bp op cp : Nat) (w : World) (h1 : Rd w bp op p) :
    Calls Try.prog 116 #[.slice (some ⟨bp, op, none⟩) p.length cp, .func (.func 108) #[] #[]] w fun e w' => (∃ n : Int, e = .returned (.int .i64 n) ∧ Hid (-1 ≤ n ∧ (0 ≤ n ↔ zeroL p = false))) ∧ w = w' := by
  go_enter Try.func116, Try.ntmps116
  go_wp2
  go_loop [8] (fun i => ∃ k : Nat, k ≤ p.length ∧ i = .int .i64 k ∧ Hid (∀ j, j < k → Gf.co p j = 0)) (fun i => p.length - (intOf i).toNat)
  case atStart => exact ⟨0, by omega, rfl, fun j hj => by omega⟩
  case round =>
    obtain ⟨k, hk, rfl, hz⟩ := hrel
    by_cases hlt : k < p.length
    · have hc := h1 k hlt
      by_cases h0 : Gf.co p k = 0
      · have hb : (Gf.co p k != 0) = false := by rw [h0]; rfl
        have H0 := Lib.hid h0
        clear h0
        go_wp2_with (go_at_call 108; refine (zero1_any _ _).mono ?_; rintro e w' ⟨rfl, rfl⟩)
        go_round
        case rel => exact ⟨k + 1, by omega, by go_num, fun j hj => by
          rcases Nat.lt_or_ge j k with h | h
          · exact hz.out j h
          · obtain rfl : j = k := by omega
            exact H0.out⟩
        case measure => simp [intOf]; omega
      · have hb : (Gf.co p k != 0) = true := by simpa using h0
        have H0 := Lib.hid h0
        clear h0
        go_wp2_with (go_at_call 108; refine (zero1_any _ _).mono ?_; rintro e w' ⟨rfl, rfl⟩)
        go_ret
        refine ⟨⟨_, rfl, ?_⟩, rfl⟩
        refine ⟨by omega, fun _ => ?_, fun _ => by omega⟩
        by_cases hzl : zeroL p = true
        · exact absurd ((zeroL_iff p).1 hzl k hlt) H0.out
        · simpa using hzl
    · have hkp : k = p.length := by omega
      have HK := Lib.hid hkp
      clear hkp
      go_wp2
      go_ret
      refine ⟨⟨-1, rfl, ?_⟩, rfl⟩
      refine ⟨by omega, fun h => by omega, fun h => ?_⟩
      rw [(zeroL_iff p).2 fun j hj => hz.out j (by rw [HK.out]; exact hj)] at h
      cases h
set_option maxRecDepth 100000 in
theorem zero_any (p : List UInt8) (hp : 0 < p.length) (hpl : p.length ≤ 1000) (bp op cp : Nat) (w : World) (h1 : Rd w bp op p) :
    Calls Try.prog 89 #[.slice (some ⟨bp, op, none⟩) p.length cp] w fun e w' => e = .returned (.bool (zeroL p)) ∧ w = w' := by
  have hcf : Calls Try.prog 107 #[.slice (some ⟨bp, op, none⟩) p.length cp, .func (.func 108) #[] #[]] w fun e w' => e = .returned (.bool (!zeroL p)) ∧ w = w' := by
    go_enter Try.func107, Try.ntmps107
    go_wp2_with (go_at_call 116; refine (indexfunc_zero p hp hpl _ _ _ _ h1).mono ?_; rintro e w' ⟨⟨n, rfl, hn⟩, rfl⟩)
    go_ret
    refine ⟨?_, rfl⟩
    have : decide (0 ≤ n) = !zeroL p := by
      rw [Bool.eq_iff_iff, decide_eq_true_eq, hn.out.2]
      simp
    rw [← this]; rfl
  have HC := Lib.hid hcf
  clear hcf
  go_enter Try.func89, Try.ntmps89
  go_wp2_with (go_at_call 107; refine (HC.out).mono ?_; rintro e w' ⟨rfl, rfl⟩)
  go_ret
  exact ⟨by simp, rfl⟩
end Go.Proofs.Ytknfkhackmnnaaa
set_option maxRecDepth 100000
set_option linter.unusedVariables false
set_option linter.unusedSimpArgs false
namespace Go.Proofs.Ytknfkhackmnnaaa
open Go.RowKit Go.Deep
/-- a word and a parity belong together -/
def shp (n : Nat) (p : Int) : Bool := decide (2 ≤ n ∧ n ≤ 255 ∧ 1 ≤ p ∧ p ≤ 16 ∧ p < n)
theorem shp_true {n : Nat} {p : Int} (h : shp n p = true) : 2 ≤ n ∧ n ≤ 255 ∧ 1 ≤ p ∧ p ≤ 16 ∧ p < n := by simpa [shp] using h
set_option maxRecDepth 100000 in
set_option maxHeartbeats 2000000 in
theorem shaped_any (s : ByteArray) (p : Int) (w : World) : Calls Try.prog 104 #[.string s, .int .i64 p] w fun e w' => e = .returned (.bool (shp s.size p)) ∧ w = w' := by
  have no : (¬ (2 ≤ s.size ∧ s.size ≤ 255 ∧ 1 ≤ p ∧ p ≤ 16 ∧ p < s.size)) → Hid (shp s.size p = false) := fun h => by
    show _ = _
    simpa [shp] using h
  by_cases h1 : 2 ≤ s.size
  · by_cases h2 : s.size ≤ 255
    · by_cases h3 : 1 ≤ p
      · by_cases h4 : p ≤ 16
        · by_cases h5 : p < s.size
          · have hs : Hid (shp s.size p = true) := by
              show _ = _
              simp [shp]; omega
            clear no
            go_enter Try.func104, Try.ntmps104
            go_wp2
            go_ret
            exact ⟨by rw [hs.out]; simp [h5], rfl⟩
          · have hs := no (by omega)
            clear no
            go_enter Try.func104, Try.ntmps104
            go_wp2
            go_ret
            exact ⟨by rw [hs.out]; simp [h5], rfl⟩
        · have hs := no (by omega)
          clear no
          go_enter Try.func104, Try.ntmps104
          go_wp2
          go_ret
          exact ⟨by rw [hs.out]; simp [h4], rfl⟩
      · have hs := no (by omega)
        clear no
        go_enter Try.func104, Try.ntmps104
        go_wp2
        go_ret
        exact ⟨by rw [hs.out]; simp [h3], rfl⟩
    · have hs := no (by omega)
      clear no
      go_enter Try.func104, Try.ntmps104
      go_wp2
      go_ret
      exact ⟨by rw [hs.out]; simp [h2], rfl⟩
  · have hs := no (by omega)
    clear no
    go_enter Try.func104, Try.ntmps104
    go_wp2
    go_ret
    exact ⟨by rw [hs.out]; simp [h1], rfl⟩
/-- the syndromes -/
def syn (l : List UInt8) (p : Nat) : List UInt8 := (List.range p).map fun j => Gf.hor l (Gf.al j)
theorem syn_length (l : List UInt8) (p : Nat) : (syn l p).length = p := by simp [syn]
theorem co_syn (l : List UInt8) (p j : Nat) (h : j < p) : Gf.co (syn l p) j = Gf.hor l (Gf.al j) := by
  rw [Gf.co_lt (by rw [syn_length]; exact h)]; simp [syn]
theorem zeroL_syn (l : List UInt8) (p : Nat) : zeroL (syn l p) = true ↔ Gf.IsCw l p := by
  rw [zeroL_iff, syn_length]
  exact ⟨fun h j hj => by rw [← co_syn l p j hj]; exact h j hj, fun h j hj => by rw [co_syn l p j hj]; exact h j hj⟩
def synZ (l : List UInt8) (k : Nat) : List UInt8 := syn l k ++ List.replicate (16 - k) 0
theorem synZ_length (l : List UInt8) {k : Nat} (h : k ≤ 16) : (synZ l k).length = 16 := by simp [synZ, syn_length]; omega
theorem synZ_set (l : List UInt8) {k : Nat} (h : k < 16) : (synZ l k).set k (Gf.hor l (Gf.al k)) = synZ l (k + 1) := by
  unfold synZ
  rw [List.set_append_right _ _ (by rw [syn_length]; omega), syn_length, Nat.sub_self]
  have : List.replicate (16 - k) (0 : UInt8) = 0 :: List.replicate (16 - (k + 1)) 0 := by
    rw [show 16 - k = (16 - (k + 1)) + 1 from by omega, List.replicate_succ]
  rw [this, List.set_cons_zero, show syn l (k + 1) = syn l k ++ [Gf.hor l (Gf.al k)] from by simp [syn, List.range_succ]]
  simp
def Z16 : Array Value := ((List.replicate 16 (0 : UInt8)).map B ++ []).toArray
theorem info16 : (Try.prog.info? 128).map (fun i => (i.zero, i.size)) = some (some (.agg Z16), 16) := by kernel_rfl
theorem synZ_zero (l : List UInt8) : Z16 = ((synZ l 0).map B ++ []).toArray := by
  unfold Z16 synZ syn
  rw [List.range_zero, List.map_nil, List.nil_append]
theorem synZ_take (l : List UInt8) {k : Nat} : (synZ l k).take k = syn l k := by
  unfold synZ
  rw [List.take_append_of_le_length (by rw [syn_length]; omega), List.take_of_length_le (by rw [syn_length]; omega)]
/-- a row of its own and a second result -/
def Ret2Own (w : World) (l : List UInt8) (v : Value) (e : Ending) (w' : World) : Prop :=
  ∃ b c, e = .returned (.tuple #[.slice (some ⟨b, 0, none⟩) l.length c, v]) ∧ Own w' b l ∧ w.heap.size ≤ b ∧ l.length ≤ c ∧ Below w.heap.size w w'
set_option maxRecDepth 100000 in
theorem syndromes_no (s : ByteArray) (p : Int) (h : shp s.size p = false) (w : World) : Calls Try.prog 88 #[.string s, .int .i64 p] w fun e w' => e = .returned (.tuple #[.slice none 0 0, .int .i64 1]) ∧ w = w' := by
  go_enter Try.func88, Try.ntmps88
  go_wp2_with (go_at_call 104; refine (shaped_any _ _ _).mono ?_; rintro e w' ⟨rfl, rfl⟩)
  go_ret2
  exact ⟨rfl, rfl⟩
set_option maxRecDepth 100000 in
set_option maxHeartbeats 1000000 in
theorem syndromes_yes (s : ByteArray) (p : Nat) (h : shp s.size p = true) (w : World) : Calls Try.prog 88 #[.string s, .int .i64 (p : Int)] w fun e w' => Ret2Own w (syn (bl s) p) (.int .i64 0) e w' := by
  obtain ⟨h1, h2, h3, h4, h5⟩ := shp_true h
  have hz := (zero_of_info info16).1
  have kb := conv_bytes s
  have hl := bl_length s
  have HL := Lib.hid hl
  clear hl
  go_enter Try.func88, Try.ntmps88
  go_wp2_with (go_at_call 104; refine (shaped_any _ _ _).mono ?_; rintro e w' ⟨rfl, rfl⟩)
  go_loopw [7, 14] (fun x i wr => ∃ k : Nat, k ≤ p ∧ i = .int .i64 k ∧ x = B (Gf.al k) ∧ Arr 128 wr w.heap.size (synZ (bl s) k) ∧ Below w.heap.size w wr) (fun _ i _ => p - (intOf i).toNat)
  case atStart => exact ⟨0, by omega, rfl, rfl, by unfold Arr; rw [← synZ_zero]; exact heap_alloc_new w _, (Below.refl _ _).alloc (Nat.le_refl _) _⟩
  case round =>
    obtain ⟨k, hk, rfl, rfl, hA, hB⟩ := hrel
    by_cases hlt : k < p
    · have hs := synZ_set (bl s) (k := k) (by omega)
      have HS := Lib.hid hs
      clear hs hz
      have hbw := bytesWorld_row wr s
      have hbb := bytesWorld_below wr s
      have hsz : w.heap.size < wr.heap.size := hA.row.lt
      have he := eval_any (bl s) (Gf.al k) (by rw [HL.out]; omega) (by rw [HL.out]; omega) wr.heap.size 0 (grownCap wr s.size 0 5) _ hbw.rd
      rw [HL.out] at he
      have HE := Lib.hid he
      have HBB := Lib.hid hbb
      clear he hbw hbb
      go_wp2_with fail
      refine HE.out.mono ?_
      rintro e w2 ⟨rfl, hB2⟩
      have hB3 : Below wr.heap.size wr w2 := HBB.out.trans (hB2.mono (by rw [Lib.bytesWorld_size]; omega))
      have hA2 : Arr 128 w2 w.heap.size (synZ (bl s) k) := heap_below_row hA hB3 hsz
      have hc := hA2.row.cell (j := k) (by rw [synZ_length _ (by omega)]; omega)
      have hf := hA2.row.free (j := k) (by rw [synZ_length _ (by omega)]; omega)
      have hB4 := hB.trans (hB3.mono hB.size)
      have HB4 := Lib.hid hB4
      clear HE HBB hB2 hA hB hB3 hB4 kb
      go_wp2_with (go_at_call 82; refine (mul_any _ 2 _).mono ?_; rintro e w' ⟨rfl, rfl⟩)
      go_roundw
      case rel => exact ⟨k + 1, by omega, by go_num, by rw [Gf.mul_comm, show (2 : UInt8) = Gf.al 1 from by decide, Gf.al_add, Nat.add_comm], by rw [← HS.out]; exact hA2.set _, HB4.out.setCell (Nat.le_refl _) _⟩
      case measure => simp [intOf]; omega
    · have hkp : k = p := by omega
      have HK := Lib.hid hkp
      clear hkp
      have hrd : Rd wr w.heap.size 0 (syn (bl s) p) := by
        have := hA.row.rd.take k
        rwa [synZ_take, HK.out] at this
      have hcl := clone_any (syn (bl s) p) (by rw [syn_length]; omega) (by rw [syn_length]; omega) w.heap.size 0 16 wr hrd
      rw [syn_length] at hcl
      have HC := Lib.hid hcl
      clear hcl hrd
      go_wp2_with fail
      refine HC.out.mono ?_
      rintro e w2 ⟨b2, c2, rfl, hO2, hb2, hc2, hB2⟩
      have hbs := hB.size
      have hB3 := hB.trans (hB2.mono hbs)
      go_wp2
      go_ret2
      exact ⟨b2, c2, rfl, hO2, by omega, hc2, hB3⟩
end Go.Proofs.Ytknfkhackmnnaaa
set_option maxRecDepth 100000
set_option linter.unusedVariables false
set_option linter.unusedSimpArgs false
namespace Go.Proofs.Ytknfkhackmnnaaa
open Go.RowKit Go.Deep
theorem set_same {l : List UInt8} {j : Nat} (hj : j < l.length) {c : UInt8} (h : Gf.co l j = c) : l.set j c = l := by
  refine Gf.co_ext (by simp) fun i hi => ?_
  rw [Gf.co_set hj]
  split
  · next e => rw [e, h]
  · rfl
theorem store_zeros {P : Program} {t : TypeId} {g n : Nat} {L : List UInt8} (m : Nat) : ∀ (i : Nat) (w : World), Row t w g L → (∀ j, j < m → n + i + j < L.length ∧ Gf.co L (n + i + j) = 0) →
    ∃ w', (storeCells ⟨g, n, none⟩ (List.replicate m (B 0)) i).run P w = .ok () w' ∧ Row t w' g L ∧ w.grownBy w' (some g) := by
  induction m with
  | zero => intro i w h _; exact ⟨w, by simp [storeCells], h, World.grownBy.refl w _⟩
  | succ m ih =>
    intro i w h hz
    have h0 := hz 0 (by omega)
    rw [Nat.add_zero] at h0
    have hadd : (⟨g, n, none⟩ : Addr).add i = ⟨g, n + i, none⟩ := by unfold Addr.add; split <;> simp_all
    have hc := h.cell h0.1
    have hf := h.free h0.1
    have hst : (store ((⟨g, n, none⟩ : Addr).add i) (B 0)).run P w = .ok () (w.setCell ⟨g, n + i, none⟩ (B 0)) := by
      rw [hadd, run_store P w _ _ _ rfl, hc]
      simp [hf]
    have h' := h.set h0.1 0
    rw [set_same h0.1 h0.2] at h'
    obtain ⟨w', hr, hw, hg⟩ := ih (i + 1) _ h' (fun j hj => by
      have := hz (j + 1) (by omega)
      rwa [show n + i + (j + 1) = n + (i + 1) + j from by omega] at this)
    refine ⟨w', ?_, hw, World.grownBy.trans (Lib.grownBy_setCell w g (n + i) _) hg⟩
    rw [List.replicate_succ]
    simp only [storeCells, Sem.run_bind, hst, Result.andThen_ok, hr]
theorem zeroCells_eq (m : Nat) : Builtin.zeroCells #[Value.int .u8 0] m = ((List.replicate m (0 : UInt8)).map B).toArray := by
  apply Array.ext
  · simp [Builtin.zeroCells]
  · intro i h1 h2
    simp [Builtin.zeroCells, Nat.mod_one]
theorem run_append_zeros (t ti ty : TypeId) (ht : Try.prog.underlying t = some (.slice 5)) (hti : Try.prog.underlying ti = some (.int .i64)) (w : World) (g n c m : Nat) (L : List UInt8) (hL : Own w g L) (hLc : L.length = c) (hn : n ≤ c)
    (hz : ∀ j, n ≤ j → j < c → Gf.co L j = 0) (hnm : n + m ≤ 1000000) (hm : m ≠ 0) :
    ∃ g' c' w', (Builtin.append_ #[t, ti] ty #[.slice (some ⟨g, 0, none⟩) n c, .int .i64 (m : Int)]).run Try.prog w = .ok (.slice (some ⟨g', 0, none⟩) (n + m) c') w' ∧ Own w' g' (L.take n ++ List.replicate m 0) ∧
      (g' = g ∨ g' = w.heap.size) ∧ w.grownBy w' (some g) := by
  obtain ⟨i0, hi, hzz⟩ := Option.map_eq_some_iff.1 infoU8
  simp only [Prod.mk.injEq] at hzz
  obtain ⟨hz0, hz1, hz2⟩ := hzz
  have hm0 : ¬ ((m : Int) < 0) := by omega
  have hw : IntKind.i64.wrap (m : Int) = (m : Int) := IntWalk.i64_in _ (by omega)
  have hmb : ¬ (281474976710656 < (m : Int)) := by omega
  have hz3 : (Value.int .u8 0).cells = #[Value.int .u8 0] := rfl
  by_cases hroom : n + m ≤ c
  · have hlen : (L.take n ++ List.replicate m 0).length = n + m := by simp [hLc]; omega
    have htake : L.take (n + m) = L.take n ++ List.replicate m 0 := by
      refine Gf.co_ext (by rw [hlen, List.length_take]; omega) fun i hi' => ?_
      rw [List.length_take] at hi'
      rw [Gf.co_take (by omega)]
      by_cases hin : i < n
      · rw [Gf.co_append_left (by rw [List.length_take]; omega), Gf.co_take hin]
      · rw [Gf.co_append_right (by rw [List.length_take]; omega), Gf.co_replicate, hz i (by omega) (by omega)]
    obtain ⟨w', hr, hw', hg⟩ := store_zeros (P := Try.prog) (t := 5) (g := g) (n := n) (L := L) m 0 w hL (fun j hj => ⟨by omega, by rw [Nat.add_zero]; exact hz _ (by omega) (by omega)⟩)
    refine ⟨g, c, w', ?_, by rw [← htake]; exact hw'.take _, .inl rfl, hg⟩
    have hadd : (⟨g, 0, none⟩ : Addr).add n = ⟨g, n, none⟩ := by unfold Addr.add; split <;> simp_all
    have hzc := zeroCells_eq m
    have hml : ((List.replicate m (0 : UInt8)).map B) = List.replicate m (B 0) := by simp
    rw [hml] at hzc
    simp [Builtin.append_, run_underlying ht, run_underlying hti, sizeOf, typeInfo, zeroValue, hi, hz0, hz1, hz2, asInt, asIntOf, hw, hmb, hm0, hm, hroom, hz3, hzc, hadd, hr]
  · have h63 : ¬ (9223372036854775807 < (n : Int) + (m : Int)) := by omega
    have h48 : ¬ (281474976710656 < Builtin.nextslicecap (n + m) c) := by
      have := growslice_fits (need := n + m) (old := c) (bytes := 1) (by omega) (by omega)
      omega
    have hfo : (Builtin.firstCells 1 n (.slice (some ⟨g, 0, none⟩) n c)).run Try.prog w.drew = .ok ((L.take n).map B).toArray w.drew := by
      have := run_firstCells_some (P := Try.prog) w.drew 1 n ⟨g, 0, none⟩ n c ((L.take n).map B) (by simp [hLc]; omega) (fun j v hv => by
        have hj : j < n := by
          rcases Nat.lt_or_ge j n with h | h
          · exact h
          · rw [List.getElem?_eq_none (by simp; omega)] at hv; cases hv
        have hadd : (⟨g, 0, none⟩ : Addr).add j = ⟨g, j, none⟩ := by unfold Addr.add; split <;> simp_all
        rw [hadd]
        have hc : w.drew.cell? ⟨g, j, none⟩ = some (B (Gf.co L j)) := hL.drew.cell (by omega)
        rw [hc]
        have hjL : j < L.length := by omega
        simp [List.getElem?_take, hj, List.getElem?_eq_getElem hjL] at hv
        rw [← hv, Gf.co_lt hjL])
      exact this
    refine ⟨w.heap.size, grownCap w (n + m) c 5, w.drew.alloc (.cells ((L.take n).map B ++ (List.replicate m (0 : UInt8)).map B ++ (List.replicate (grownCap w (n + m) c 5 - (n + m)) (0 : UInt8)).map B).toArray 5), ?_, ?_, .inr rfl, ?_⟩
    · simp [Builtin.append_, run_underlying ht, run_underlying hti, sizeOf, typeInfo, zeroValue, hi, hz0, hz1, hz2, asInt, asIntOf, hw, hmb, hm0, hm, hroom, hz3, h63, h48, Question.forced, hfo, newRow, grownCap, zeroCells_eq]
      congr 2
      apply Array.ext'
      simp
    · refine ⟨(List.replicate (grownCap w (n + m) c 5 - (n + m)) (0 : UInt8)).map B, (0, 0), ?_, .inl (Nat.le_refl 0)⟩
      rw [List.map_append]
      exact heap_alloc_new w.drew _
    · exact ⟨rfl, rfl, rfl, by simp, fun k hk _ => Below.heap_alloc w.drew _ k hk⟩
theorem app_zeros (t ti : TypeId) (ht : Try.prog.underlying t = some (.slice 5)) (hti : Try.prog.underlying ti = some (.int .i64)) {ops : Array Oper} {rest : List Oper} {o : Oper} {a : Act} {w : World} {Q : Exit → Act → World → Prop} (hgd : o.guard = none) (s x : Operand)
    (ho : o.op = .call { callee := .builtin .append, args := #[s, x], argTypes := #[t, ti] })
    (g n c m : Nat) (hs : a.eval s = .slice (some ⟨g, 0, none⟩) n c) (hx : a.eval x = .int .i64 (m : Int)) (L : List UInt8) (hL : Own w g L) (hLc : L.length = c) (hn : n ≤ c)
    (hz : ∀ j, n ≤ j → j < c → Gf.co L j = 0) (hnm : n + m ≤ 1000000) (hm : m ≠ 0)
    (h : ∀ g' c' w', Own w' g' (L.take n ++ List.replicate m 0) → (g' = g ∨ g' = w.heap.size) → w.grownBy w' (some g) → wpList Try.prog ops Q rest (a.put o.dst (.slice (some ⟨g', 0, none⟩) (n + m) c')) w') :
    wpList Try.prog ops Q (o :: rest) a w := by
  obtain ⟨g', c', w', hr, h1, h2, h3⟩ := run_append_zeros t ti o.type ht hti w g n c m L hL hLc hn hz hnm hm
  refine wpList_plain hgd fun K hK => ?_
  unfold Oper.wp execOp
  simp only [ho, resolve, invoke, builtin, Sem.run_bind, Sem.run_pure, Result.andThen_ok, List.map_toArray, List.map_cons, List.map_nil, hs, hx, hr]
  exact hK _ _ (h g' c' w' h1 h2 h3)
/-- the whole row of a conversion -/
theorem bytesWorld_all (W : World) (s : ByteArray) : Own (Lib.bytesWorld W 5 s) W.heap.size (bl s ++ List.replicate (grownCap W s.size 0 5 - s.size) 0) := by
  have h := Lib.bytesWorld_at_new W 5 s
  have hc : Lib.bytesCells W 5 s = ((bl s ++ List.replicate (grownCap W s.size 0 5 - s.size) 0).map B ++ []).toArray := by
    apply Array.ext'
    simp [Lib.bytesCells, bl]
  refine ⟨[], ((Lib.bytesCells W 5 s).size, (Lib.bytesCells W 5 s).size + 1), by rw [h, hc], .inr ?_⟩
  rw [hc]
  simp
theorem toList_nil {s : ByteArray} (h : s.size = 0) : s.toList = [] := by
  rw [ByteArray.toList_eq]
  exact List.eq_nil_of_length_eq_zero (by rw [← h]; exact bl_length s)
theorem toList_cons {s : ByteArray} (h : s.size ≠ 0) : s.toList.isEmpty = false := by
  rw [ByteArray.toList_eq]
  cases hl : s.data.toList with
  | nil => exact absurd (by rw [← bl_length s, show bl s = [] from hl]; rfl) h
  | cons a l => rfl
theorem toList_cons' {s : ByteArray} (h : s.size ≠ 0) : (s.toList == []) = false := by
  have := toList_cons h
  cases hl : s.toList with
  | nil => rw [hl] at this; cases this
  | cons a l => rfl
/-- data and a parity that can be encoded -/
def encOk (n : Nat) (p : Int) : Bool := decide (1 ≤ p ∧ p ≤ 16 ∧ n ≠ 0 ∧ n + p ≤ 255)
theorem encOk_true {n : Nat} {p : Int} (h : encOk n p = true) : 1 ≤ p ∧ p ≤ 16 ∧ n ≠ 0 ∧ n + p ≤ 255 := by simpa [encOk] using h
def RetEnc (w : World) (s : ByteArray) (p : Nat) (e : Ending) (w' : World) : Prop :=
  ∃ r : List UInt8, e = .returned (.tuple #[.string (str (bl s ++ r)), .int .i64 0]) ∧ r.length = p ∧ Gf.IsCw (bl s ++ r) p ∧ Below w.heap.size w w'
set_option maxRecDepth 100000 in
set_option maxHeartbeats 2000000 in
theorem encode_no (s : ByteArray) (p : Int) (h : encOk s.size p = false) (hs : s.size ≤ 140737488351232) (w : World) : Calls Try.prog 36 #[.string s, .int .i64 p] w fun e w' => e = .returned (.tuple #[.string (str []), .int .i64 1]) ∧ w = w' := by

  have hn : ¬ (1 ≤ p ∧ p ≤ 16 ∧ s.size ≠ 0 ∧ s.size + p ≤ 255) := by simpa [encOk] using h
  clear h
  by_cases h1 : 1 ≤ p
  · by_cases h2 : p ≤ 16
    · by_cases h3 : s.size = 0
      · have hl : s.toList = [] := toList_nil h3
        go_enter Try.func36, Try.ntmps36
        go_wp2
        go_ret2
        exact ⟨rfl, rfl⟩
      · have hl : s.toList.isEmpty = false := toList_cons h3
        have hl2 : (s.toList == []) = false := toList_cons' h3
        have hbig : 255 < (s.size : Int) + p := by omega
        go_enter Try.func36, Try.ntmps36
        go_wp2
        go_ret2
        exact ⟨rfl, rfl⟩
    · go_enter Try.func36, Try.ntmps36
      go_wp2
      go_ret2
      exact ⟨rfl, rfl⟩
  · go_enter Try.func36, Try.ntmps36
    go_wp2
    go_ret2
    exact ⟨rfl, rfl⟩
set_option maxRecDepth 100000 in
set_option maxHeartbeats 2000000 in
theorem encode_yes (s : ByteArray) (p : Nat) (h : encOk s.size p = true) (w : World) : Calls Try.prog 36 #[.string s, .int .i64 (p : Int)] w fun e w' => RetEnc w s p e w' := by
  obtain ⟨h1, h2, h3, h4⟩ := encOk_true h
  clear h
  have hl : s.toList.isEmpty = false := toList_cons h3
  have hl2 : (s.toList == []) = false := toList_cons' h3
  have kb := conv_bytes s
  have hbl := bl_length s
  have HL := Lib.hid hbl
  have hs0 : 0 < s.size := by omega
  clear hbl h3
  go_enter Try.func36, Try.ntmps36
  go_wp2_with (first | (go_at_call 61; refine (generator_any p (by omega) _).mono ?_; rintro e w1 ⟨g, bg, cg, rfl, hO1, hb1, hG1, hB1⟩) | (at_builtin; refine app_zeros _ _ Try.underlying43 Try.underlying3 rfl _ _ rfl _ s.size _ p rfl rfl _ (bytesWorld_all _ s) ?a1 ?a2 ?a3 ?a4 ?a5 ?_))
  case a1 => simp only [List.length_append, List.length_replicate, HL.out]; have := grownCap_ge w1 s.size 0 5; omega
  case a2 => exact grownCap_ge w1 s.size 0 5
  case a3 => intro j h1 _; rw [Gf.co_append_right (by rw [HL.out]; exact h1), Gf.co_replicate]
  case a4 => omega
  case a5 => omega
  intro g2 c2 w2 hO2 hg2 hgr2
  have ht : (bl s ++ List.replicate (grownCap w1 s.size 0 5 - s.size) 0).take s.size = bl s := by
    rw [List.take_append_of_le_length (by rw [HL.out]; exact Nat.le_refl _), List.take_of_length_le (by rw [HL.out]; exact Nat.le_refl _)]
  rw [ht] at hO2
  have hsz1 := hB1.size
  have hg2' : w1.heap.size ≤ g2 := by
    rcases hg2 with h | h
    · omega
    · rw [Lib.bytesWorld_size] at h; omega
  have hB2 : Below w1.heap.size w1 w2 := (bytesWorld_below w1 s).trans ⟨hgr2.os, hgr2.tape, hgr2.output, hgr2.size, fun k hk => hgr2.block k (by rw [Lib.bytesWorld_size]; omega) (fun e => by injection e with e; omega)⟩
  have hlt1 := hO1.lt
  have hO1' := hO1.below hB2 hlt1
  have hB12 := hB1.trans (hB2.mono hsz1)
  have hsz2 := hB2.size
  have hgl := hG1.1
  have h0 : Gf.co g 0 ≠ 0 := by rw [hG1.2.1]; decide
  have hrem := remainder_any (bl s ++ List.replicate p 0) g (by simp [HL.out]; omega) (by omega) h0 (by simp [HL.out]; omega) (by omega) g2 0 c2 bg 0 cg w2 hO2.rd hO1'.rd
  rw [List.length_append, HL.out, List.length_replicate] at hrem
  have HR := Lib.hid hrem
  have HG := Lib.hid hG1
  have hB12h := Lib.hid hB12
  clear hrem hG1 hO2 hg2 hgr2 hO1 hB1 hO1' hB2 hB12 ht hgl h0
  go_wp2_with fail
  refine HR.out.mono ?_
  rintro e w3 ⟨r, b3, c3, rfl, hO3, hb3, hr1, hr2, hB3⟩
  have kc := conv_string hO3.rd c3
  have hgl := HG.out.1
  have hrl : r.length = p := by omega
  have HRL := Lib.hid hrl
  have H3 := Lib.hid hr2
  have hB4 := Lib.hid (hB12h.out.trans (hB3.mono (Nat.le_trans hsz1 hsz2)))
  have hrr : r.length ≤ 16 := by omega
  have hsr : s.size + (str r).size ≤ 9223372036854775807 := by rw [str_size]; omega
  have hcat : s ++ str r = str (bl s ++ r) := by rw [← str_append, str_bl]
  have HC := Lib.hid hcat
  clear hgl hrl hr1 hr2 hB3 hcat
  go_wp2
  go_ret2
  refine ⟨r, by rw [← HC.out]; rfl, HRL.out, fun j hj => ?_, hB4.out⟩
  rw [Gf.hor_append, H3.out _ (HG.out.2.2 j hj), Gf.hor_append, Gf.hor_zeros, List.length_replicate, HRL.out, UInt8.xor_zero, UInt8.xor_self]
end Go.Proofs.Ytknfkhackmnnaaa
set_option maxRecDepth 100000
set_option linter.unusedVariables false
set_option linter.unusedSimpArgs false
namespace Go.Proofs.Ytknfkhackmnnaaa
open Go.RowKit Go.Deep
/-- a word is a codeword, as the program says it -/
def vld (s : ByteArray) (p : Int) : Bool := shp s.size p && zeroL (syn (bl s) p.toNat)
theorem vld_iff (s : ByteArray) (p : Nat) : vld s p = true ↔ shp s.size p = true ∧ Gf.IsCw (bl s) p := by
  unfold vld
  rw [Bool.and_eq_true, Int.toNat_natCast, zeroL_syn]
set_option maxRecDepth 100000 in
theorem valid_any (s : ByteArray) (p : Int) (w : World) : Calls Try.prog 65 #[.string s, .int .i64 p] w fun e w' => Ret1 w (.bool (vld s p)) e w' := by
  by_cases h : shp s.size p = true
  · obtain ⟨h1, h2, h3, h4, h5⟩ := shp_true h
    obtain ⟨n, rfl⟩ := Int.eq_ofNat_of_zero_le (show 0 ≤ p by omega)
    have hv : Hid (vld s n = zeroL (syn (bl s) n)) := by
      show _ = _
      unfold vld
      rw [h, Bool.true_and, Int.toNat_natCast]
    have H := Lib.hid h
    clear h
    go_enter Try.func65, Try.ntmps65
    go_wp2_with fail
    refine (syndromes_yes s n H.out _).mono ?_
    rintro e w1 ⟨b, c, rfl, hO, hb, hc, hB⟩
    have hz := zero_any (syn (bl s) n) (by rw [syn_length]; omega) (by rw [syn_length]; omega) b 0 c w1 hO.rd
    have HZ := Lib.hid hz
    clear hz
    go_wp2_with (go_at_call 89; refine HZ.out.mono ?_; rintro e w' ⟨rfl, rfl⟩)
    go_ret
    exact ⟨by rw [hv.out]; rfl, hB⟩
  · have h : shp s.size p = false := by simpa using h
    have hv : Hid (vld s p = false) := by
      show _ = _
      unfold vld
      rw [h, Bool.false_and]
    have H := Lib.hid h
    clear h
    go_enter Try.func65, Try.ntmps65
    go_wp2_with fail
    refine (syndromes_no s p H.out _).mono ?_
    rintro e w1 ⟨rfl, rfl⟩
    go_wp2
    go_ret
    exact ⟨by rw [hv.out]; rfl, Below.refl _ _⟩
/-- one more than the degree -/
def dgN (l : List UInt8) : Nat → Nat
  | 0 => 0
  | m + 1 => if Gf.co l m = 0 then dgN l m else m + 1
def dg (l : List UInt8) : Nat := dgN l l.length
theorem dgN_le (l : List UInt8) (m : Nat) : dgN l m ≤ m := by
  induction m with
  | zero => exact Nat.le_refl 0
  | succ m ih => unfold dgN; split <;> omega
theorem dgN_zero (l : List UInt8) (m : Nat) : ∀ i, dgN l m ≤ i → i < m → Gf.co l i = 0 := by
  induction m with
  | zero => intro i _ h; omega
  | succ m ih =>
    intro i h1 h2
    unfold dgN at h1
    split at h1
    · next h =>
      by_cases hi : i = m
      · rw [hi, h]
      · exact ih i h1 (by omega)
    · omega
theorem dgN_ne (l : List UInt8) (m : Nat) : 0 < dgN l m → Gf.co l (dgN l m - 1) ≠ 0 := by
  induction m with
  | zero => intro h; exact absurd h (Nat.lt_irrefl 0)
  | succ m ih =>
    unfold dgN
    split
    · exact ih
    · next h => intro _; rw [Nat.add_sub_cancel]; exact h
theorem dg_le (l : List UInt8) : dg l ≤ l.length := dgN_le l _
theorem dg_sup (l : List UInt8) : Gf.Sup (dg l) (Gf.co l) := fun i hi => by
  by_cases h : i < l.length
  · exact dgN_zero l _ i hi h
  · exact Gf.co_ge (by omega)
theorem dg_ne {l : List UInt8} (h : 0 < dg l) : Gf.co l (dg l - 1) ≠ 0 := dgN_ne l _ h
set_option maxRecDepth 100000 in
theorem degree_any (p : List UInt8) (hp : 0 < p.length) (hpl : p.length ≤ 1000) (bp op cp : Nat) (w : World) (h1 : Rd w bp op p) :
    Calls Try.prog 93 #[.slice (some ⟨bp, op, none⟩) p.length cp] w fun e w' => e = .returned (.int .i64 ((dg p : Int) - 1)) ∧ w = w' := by
  go_enter Try.func93, Try.ntmps93
  go_wp2
  go_loop [3] (fun i => ∃ m : Nat, m ≤ p.length ∧ i = .int .i64 ((m : Int) - 1) ∧ Hid (dgN p m = dg p)) (fun i => (intOf i + 1).toNat)
  case atStart => exact ⟨p.length, Nat.le_refl _, rfl, rfl⟩
  case round =>
    obtain ⟨m, hm, rfl, hd⟩ := hrel
    rcases m with _ | k
    · have hv : ((0 : Nat) : Int) - 1 = -1 := rfl
      rw [hv]
      have hd0 : Hid ((dg p : Int) - 1 = -1) := by
        have := hd.out
        unfold dgN at this
        show _ = _
        omega
      go_wp2
      go_ret
      exact ⟨by rw [hd0.out]; rfl, rfl⟩
    · have hv : ((k + 1 : Nat) : Int) - 1 = (k : Int) := by omega
      rw [hv]
      clear hv
      have hc := h1 k (by omega)
      by_cases h0 : Gf.co p k = 0
      · have h2 : ((Gf.co p k).toNat == 0) = true := by rw [h0]; rfl
        have h3 : (((Gf.co p k).toNat : Int) == 0) = true := by rw [h0]; rfl
        have H0 := Lib.hid h0
        clear h0
        go_wp2
        go_round
        case rel => exact ⟨k, by omega, rfl, by have := hd.out; unfold dgN at this; rwa [if_pos H0.out] at this⟩
        case measure => simp [intOf]
      · have h2 : ((Gf.co p k).toNat == 0) = false := by
          rw [beq_eq_false_iff_ne]; exact fun e => h0 (UInt8.toNat_inj.1 e)
        have h3 : (((Gf.co p k).toNat : Int) == 0) = false := by
          rw [beq_eq_false_iff_ne]; exact fun e => h0 (u8_inj e)
        have hd0 : Hid ((dg p : Int) - 1 = (k : Int)) := by
          have := hd.out
          unfold dgN at this
          rw [if_neg h0] at this
          show _ = _
          omega
        clear h0
        go_wp2
        go_ret
        exact ⟨by rw [hd0.out]; rfl, rfl⟩
set_option maxRecDepth 100000 in
theorem times_any (p q : List UInt8) (hp : 0 < p.length) (hq : 0 < q.length) (hpl : p.length ≤ 1000) (hql : q.length ≤ 1000) (bp op cp bq oq cq : Nat) (w : World) (h1 : Rd w bp op p) (h2 : Rd w bq oq q) :
    Calls Try.prog 96 #[.slice (some ⟨bp, op, none⟩) p.length cp, .slice (some ⟨bq, oq, none⟩) q.length cq] w fun e w' => RetOwn w (Gf.prod p q) e w' := by
  go_enter Try.func96, Try.ntmps96
  go_wp2_with (go_at_call 78; refine (product_any p q hp hq hpl hql _ _ _ _ _ _ _ h1 h2).mono ?_; rintro e w' ⟨b, c, rfl, hO, hb, hc, hB⟩)
  go_ret
  exact ⟨b, c, rfl, hO, hb, hc, hB⟩
set_option maxRecDepth 100000 in
theorem locator_any (s : ByteArray) (i : Nat) (hi : i < s.size) (hs : s.size ≤ 255) (w : World) : Calls Try.prog 117 #[.string s, .int .i64 (i : Int)] w fun e w' => e = .returned (B (Gf.X s.size i)) ∧ w = w' := by
  have e1 : (s.size : Int) - 1 - (i : Int) = ((s.size - 1 - i : Nat) : Int) := by omega
  obtain ⟨m, hm⟩ : ∃ m, m = s.size - 1 - i := ⟨_, rfl⟩
  rw [← hm] at e1
  have hml : m ≤ 255 := by omega
  have E1 := Lib.hid e1
  have HM := Lib.hid hm
  clear e1 hm
  go_enter Try.func117, Try.ntmps117
  go_wp2_with fail
  rw [E1.out]
  refine (exp_nat m (by omega) _).mono ?_
  rintro e w' ⟨rfl, rfl⟩
  go_wp2
  go_ret
  exact ⟨by rw [HM.out]; rfl, rfl⟩
end Go.Proofs.Ytknfkhackmnnaaa
set_option maxRecDepth 100000
set_option linter.unusedVariables false
set_option linter.unusedSimpArgs false
namespace Go.Proofs.Ytknfkhackmnnaaa
open Go.RowKit Go.Deep
theorem infoU8s : (Try.prog.info? 5).map (·.size) = some 1 := by
  obtain ⟨i0, hi, hzz⟩ := Option.map_eq_some_iff.1 infoU8
  simp only [Prod.mk.injEq] at hzz
  rw [hi]
  simp [hzz.2.1]
/-- the derivative, k symbols of it -/
def derK (p : List UInt8) (k : Nat) : List UInt8 := (List.range (p.length - 1)).map fun i => if i < k then (if i % 2 = 0 then Gf.co p (i + 1) else 0) else 0
theorem derK_length (p : List UInt8) (k : Nat) : (derK p k).length = p.length - 1 := by simp [derK]
theorem co_derK (p : List UInt8) (k i : Nat) (h : i < p.length - 1) : Gf.co (derK p k) i = if i < k then (if i % 2 = 0 then Gf.co p (i + 1) else 0) else 0 := by
  rw [Gf.co_lt (by rw [derK_length]; exact h)]; simp [derK]
theorem derK_zero (p : List UInt8) : derK p 0 = List.replicate (p.length - 1) 0 := by
  refine Gf.co_ext (by simp [derK_length]) fun i hi => ?_
  rw [derK_length] at hi
  rw [co_derK _ _ _ hi, if_neg (by omega), Gf.co_replicate]
theorem derK_full (p : List UInt8) : derK p (p.length - 1) = Gf.der p := by
  refine Gf.co_ext (by rw [derK_length, Gf.der_length]) fun i hi => ?_
  rw [derK_length] at hi
  rw [co_derK _ _ _ hi, if_pos hi, Gf.co_der]
theorem derK_even (p : List UInt8) (k : Nat) (hk : k < p.length - 1) (he : k % 2 = 0) : (derK p k).set k (Gf.co p (k + 1)) = derK p (k + 1) := by
  refine Gf.co_ext (by simp [derK_length]) fun i hi => ?_
  rw [List.length_set, derK_length] at hi
  rw [Gf.co_set (by rw [derK_length]; exact hk), co_derK _ _ _ hi, co_derK _ _ _ hi]
  by_cases h : i = k
  · subst h; rw [if_pos rfl, if_pos (by omega), if_pos he]
  · rw [if_neg h]
    by_cases h2 : i < k
    · rw [if_pos h2, if_pos (show i < k + 1 by omega)]
    · rw [if_neg h2, if_neg (show ¬ i < k + 1 by omega)]
theorem derK_odd (p : List UInt8) (k : Nat) (he : ¬ k % 2 = 0) : derK p k = derK p (k + 1) := by
  refine Gf.co_ext (by simp [derK_length]) fun i hi => ?_
  rw [derK_length] at hi
  rw [co_derK _ _ _ hi, co_derK _ _ _ hi]
  by_cases h2 : i < k
  · rw [if_pos h2, if_pos (show i < k + 1 by omega)]
  · rw [if_neg h2]
    by_cases h : i = k
    · subst h; rw [if_pos (show i < i + 1 by omega), if_neg he]
    · rw [if_neg (show ¬ i < k + 1 by omega)]
set_option maxRecDepth 100000 in
set_option maxHeartbeats 1000000 in
theorem derivative_any (p : List UInt8) (hp : 0 < p.length) (hpl : p.length ≤ 1000) (bp op cp : Nat) (w : World) (h1 : Rd w bp op p) :
    Calls Try.prog 111 #[.slice (some ⟨bp, op, none⟩) p.length cp] w fun e w' => RetOwn w (Gf.der p) e w' := by
  have hbp := h1.lt hp
  obtain ⟨n, hn⟩ : ∃ n, n = p.length - 1 := ⟨_, rfl⟩
  have e1 : (p.length : Int) - 1 = (n : Int) := by omega
  have hmk := make_bytes 112 Try.underlying112 n (by omega)
  rw [← e1] at hmk
  have HN := Lib.hid hn
  have hn1 : n < p.length := by omega
  have hn2 : p.length ≤ n + 1 := by omega
  clear e1 hn
  go_enter Try.func111, Try.ntmps111
  go_wp2
  go_loopw [12] (fun i wr => ∃ k : Nat, k ≤ n ∧ i = .int .i64 k ∧ Own wr w.heap.size (derK p k) ∧ Below w.heap.size w wr) (fun i _ => n - (intOf i).toNat)
  case atStart => exact ⟨0, by omega, rfl, by rw [derK_zero, ← HN.out]; exact Own.made w n, (Below.refl _ _).alloc (Nat.le_refl _) _⟩
  case round =>
    obtain ⟨k, hk, rfl, hO, hB⟩ := hrel
    by_cases hlt : k < n
    · by_cases he : k % 2 = 0
      · have he' : ((k : Int) % 2 == 0) = true := by rw [beq_iff_eq]; omega
        have hc := (h1.below hB hbp) (k + 1) (by omega)
        have hl : k < (derK p k).length := by rw [derK_length, ← HN.out]; exact hlt
        have hco := hO.cell hl
        have hfo := hO.free hl
        have hn3 := derK_even p k (by rw [← HN.out]; exact hlt) he
        have H3 := Lib.hid hn3
        clear hn3 he
        go_wp2
        go_roundw
        case rel => exact ⟨k + 1, by omega, by go_num, by rw [← H3.out]; exact hO.set hl _, hB.setCell (Nat.le_refl _) _⟩
        case measure => simp [intOf]; omega
      · have he' : ((k : Int) % 2 == 0) = false := by rw [beq_eq_false_iff_ne]; omega
        have hn3 := derK_odd p k he
        have H3 := Lib.hid hn3
        clear hn3 he
        go_wp2
        go_roundw
        case rel => exact ⟨k + 1, by omega, by go_num, by rw [← H3.out]; exact hO, hB⟩
        case measure => simp [intOf]; omega
    · have hkn : k = n := by omega
      have HK := Lib.hid hkn
      clear hkn
      go_wp2
      go_ret
      have hd : derK p k = Gf.der p := by rw [HK.out, HN.out, derK_full]
      exact ⟨w.heap.size, n, by rw [Gf.der_length, ← HN.out]; rfl, by rw [← hd]; exact hO, Nat.le_refl _, by rw [Gf.der_length, ← HN.out]; exact Nat.le_refl _, hB⟩
/-- the sum -/
def plusL (p q : List UInt8) : List UInt8 := addM (p ++ List.replicate (max p.length q.length - p.length) 0) 0 1 q q.length
theorem plusL_length (p q : List UInt8) : (plusL p q).length = max p.length q.length := by
  unfold plusL
  rw [addM_length]
  simp
  omega
theorem co_plusL (p q : List UInt8) (i : Nat) : Gf.co (plusL p q) i = Gf.co p i ^^^ Gf.co q i := by
  unfold plusL
  rw [addM_full, Gf.co_addAt _ _ _ (by simp; omega), if_pos (Nat.zero_le _), Nat.sub_zero, Gf.co_mul, Gf.one_mul]
  congr 1
  by_cases h : i < p.length
  · rw [Gf.co_append_left h]
  · rw [Gf.co_append_right (by omega), Gf.co_replicate, Gf.co_ge (by omega)]
set_option maxRecDepth 100000 in
set_option maxHeartbeats 1000000 in
theorem plus_any (p q : List UInt8) (hp : 0 < p.length) (hq : 0 < q.length) (hpl : p.length ≤ 1000) (hql : q.length ≤ 1000) (bp op cp bq oq cq : Nat) (w : World) (h1 : Rd w bp op p) (h2 : Rd w bq oq q) :
    Calls Try.prog 95 #[.slice (some ⟨bp, op, none⟩) p.length cp, .slice (some ⟨bq, oq, none⟩) q.length cq] w fun e w' => RetOwn w (plusL p q) e w' := by
  have hbp := h1.lt hp
  have hbq := h2.lt hq
  by_cases hle : p.length < q.length
  · have hmk := make_bytes 112 Try.underlying112 q.length (by omega)
    have hmax : Hid (q.length = max p.length q.length) := by show _ = _; omega
    have hn1 : p.length ≤ q.length := by omega
    have hn2 : q.length ≤ q.length := by omega
    have C1 : Hid (∀ u : Unit, (w.alloc (.cells (madeCells #[.int .u8 0] q.length) 5)).heap[w.heap.size]? = some (.cells ((List.replicate q.length (0 : UInt8)).map B ++ []).toArray 5 (0, 0))) := by
      intro _
      rw [zeros_eq]; exact heap_alloc_new w _
    have C2 : Hid ((p.map B).length = Nat.min p.length q.length) := by
      show _ = _
      rw [List.length_map]; exact (Nat.min_eq_left hn1).symm
    have C3 : Hid (∀ j v, (p.map B)[j]? = some v → (w.alloc (.cells (madeCells #[.int .u8 0] q.length) 5)).cell? ((⟨bp, op, none⟩ : Addr).add j) = some v) := fun j v hv => by
      have hj : j < p.length := by
        rcases Nat.lt_or_ge j p.length with h | h
        · exact h
        · rw [List.getElem?_eq_none (by simpa using h)] at hv; cases hv
      have hadd : (⟨bp, op, none⟩ : Addr).add j = ⟨bp, op + j, none⟩ := by unfold Addr.add; split <;> simp_all
      rw [hadd, (h1.below ((Below.refl _ _).alloc (Nat.le_refl _) _) hbp) j hj]
      simp [List.getElem?_eq_getElem hj] at hv
      rw [← hv, Gf.co_lt hj]
    have C4 : Hid (0 + (p.map B).length ≤ ((List.replicate q.length (0 : UInt8)).map B ++ []).length) := by show _ ≤ _; simp; try omega
    have C5 : Hid (∀ v ∈ p.map B, v.oneCell' = true) := by intro v hv; obtain ⟨c, _, rfl⟩ := List.mem_map.1 hv; rfl
    go_enter Try.func95, Try.ntmps95
    go_wp2_with (refine wpList_copy_splice rfl (.tmp 14) (.tmp 15) 112 112 rfl 5 Try.underlying112 infoU8s _ _ _ _ _ _ rfl rfl w.heap.size 0 ((List.replicate q.length (0 : UInt8)).map B ++ []) 5 ?_ (p.map B) ?_ ?_ ?_ ?_ w.heap.size w ?_ (Nat.le_refl _) ?_; exact C1.out (); exact C2.out; exact fun _ => ⟨rfl, ⟨bp, op, none⟩, rfl, C3.out⟩; exact C4.out; exact C5.out; exact (Below.refl _ _).alloc (Nat.le_refl _) _)
    intro w2 hg hB2
    have hO2 : Own w2 w.heap.size (p ++ List.replicate (q.length - p.length) 0) := by
      refine Row.of_heap ?_
      rw [hg.out]
      congr 3
      simp [splice]
    clear hg hmk
    obtain ⟨R, hR⟩ : ∃ R, R = p ++ List.replicate (q.length - p.length) 0 := ⟨_, rfl⟩
    have hRl : R.length = q.length := by rw [hR]; simp; try omega
    rw [← hR] at hO2
    have HR := Lib.hid hR
    have HL := Lib.hid hRl
    clear hR hRl
    go_wp2
    go_loopw [19] (fun i wr => ∃ m : Nat, m ≤ q.length ∧ i = .int .i64 m ∧ Own wr w.heap.size (addM R 0 1 q m) ∧ Below w.heap.size w wr) (fun i _ => q.length - (intOf i).toNat)
    case atStart => exact ⟨0, by omega, rfl, hO2, hB2⟩
    case round =>
      obtain ⟨m, hm, rfl, hO, hB⟩ := hrel
      by_cases hlt : m < q.length
      · have hcq := (h2.below hB hbq) m hlt
        have hlen : m < (addM R 0 1 q m).length := by rw [addM_length, HL.out]; omega
        have hco := hO.cell hlen
        have hfo := hO.free hlen
        have hx := addM_next R 0 1 q m hlt
        rw [Nat.zero_add, Gf.one_mul] at hx
        have HX := Lib.hid hx
        clear hx
        go_wp2
        go_roundw
        case rel => exact ⟨m + 1, by omega, by go_num, by rw [b_xor, ← HX.out]; exact hO.set hlen _, hB.setCell (Nat.le_refl _) _⟩
        case measure => simp [intOf]; omega
      · have hmq : m = q.length := by omega
        have HM := Lib.hid hmq
        clear hmq
        go_wp2
        go_ret
        have hp2 : addM R 0 1 q m = plusL p q := by rw [HM.out, HR.out]; unfold plusL; rw [← hmax.out]
        exact ⟨w.heap.size, q.length, by rw [plusL_length, ← hmax.out]; rfl, by rw [← hp2]; exact hO, Nat.le_refl _, by rw [plusL_length, ← hmax.out]; exact Nat.le_refl _, hB⟩
  · have hmk := make_bytes 112 Try.underlying112 p.length (by omega)
    have hmax : Hid (p.length = max p.length q.length) := by show _ = _; omega
    have hn1 : p.length ≤ p.length := by omega
    have hn2 : q.length ≤ p.length := by omega
    have C1 : Hid (∀ u : Unit, (w.alloc (.cells (madeCells #[.int .u8 0] p.length) 5)).heap[w.heap.size]? = some (.cells ((List.replicate p.length (0 : UInt8)).map B ++ []).toArray 5 (0, 0))) := by
      intro _
      rw [zeros_eq]; exact heap_alloc_new w _
    have C2 : Hid ((p.map B).length = Nat.min p.length p.length) := by
      show _ = _
      rw [List.length_map]; exact (Nat.min_eq_left hn1).symm
    have C3 : Hid (∀ j v, (p.map B)[j]? = some v → (w.alloc (.cells (madeCells #[.int .u8 0] p.length) 5)).cell? ((⟨bp, op, none⟩ : Addr).add j) = some v) := fun j v hv => by
      have hj : j < p.length := by
        rcases Nat.lt_or_ge j p.length with h | h
        · exact h
        · rw [List.getElem?_eq_none (by simpa using h)] at hv; cases hv
      have hadd : (⟨bp, op, none⟩ : Addr).add j = ⟨bp, op + j, none⟩ := by unfold Addr.add; split <;> simp_all
      rw [hadd, (h1.below ((Below.refl _ _).alloc (Nat.le_refl _) _) hbp) j hj]
      simp [List.getElem?_eq_getElem hj] at hv
      rw [← hv, Gf.co_lt hj]
    have C4 : Hid (0 + (p.map B).length ≤ ((List.replicate p.length (0 : UInt8)).map B ++ []).length) := by show _ ≤ _; simp; try omega
    have C5 : Hid (∀ v ∈ p.map B, v.oneCell' = true) := by intro v hv; obtain ⟨c, _, rfl⟩ := List.mem_map.1 hv; rfl
    go_enter Try.func95, Try.ntmps95
    go_wp2_with (refine wpList_copy_splice rfl (.tmp 14) (.tmp 15) 112 112 rfl 5 Try.underlying112 infoU8s _ _ _ _ _ _ rfl rfl w.heap.size 0 ((List.replicate p.length (0 : UInt8)).map B ++ []) 5 ?_ (p.map B) ?_ ?_ ?_ ?_ w.heap.size w ?_ (Nat.le_refl _) ?_; exact C1.out (); exact C2.out; exact fun _ => ⟨rfl, ⟨bp, op, none⟩, rfl, C3.out⟩; exact C4.out; exact C5.out; exact (Below.refl _ _).alloc (Nat.le_refl _) _)
    intro w2 hg hB2
    have hO2 : Own w2 w.heap.size (p ++ List.replicate (p.length - p.length) 0) := by
      refine Row.of_heap ?_
      rw [hg.out]
      congr 3
      simp [splice]
    clear hg hmk
    obtain ⟨R, hR⟩ : ∃ R, R = p ++ List.replicate (p.length - p.length) 0 := ⟨_, rfl⟩
    have hRl : R.length = p.length := by rw [hR]; simp; try omega
    rw [← hR] at hO2
    have HR := Lib.hid hR
    have HL := Lib.hid hRl
    clear hR hRl
    go_wp2
    go_loopw [19] (fun i wr => ∃ m : Nat, m ≤ q.length ∧ i = .int .i64 m ∧ Own wr w.heap.size (addM R 0 1 q m) ∧ Below w.heap.size w wr) (fun i _ => q.length - (intOf i).toNat)
    case atStart => exact ⟨0, by omega, rfl, hO2, hB2⟩
    case round =>
      obtain ⟨m, hm, rfl, hO, hB⟩ := hrel
      by_cases hlt : m < q.length
      · have hcq := (h2.below hB hbq) m hlt
        have hlen : m < (addM R 0 1 q m).length := by rw [addM_length, HL.out]; omega
        have hco := hO.cell hlen
        have hfo := hO.free hlen
        have hx := addM_next R 0 1 q m hlt
        rw [Nat.zero_add, Gf.one_mul] at hx
        have HX := Lib.hid hx
        clear hx
        go_wp2
        go_roundw
        case rel => exact ⟨m + 1, by omega, by go_num, by rw [b_xor, ← HX.out]; exact hO.set hlen _, hB.setCell (Nat.le_refl _) _⟩
        case measure => simp [intOf]; omega
      · have hmq : m = q.length := by omega
        have HM := Lib.hid hmq
        clear hmq
        go_wp2
        go_ret
        have hp2 : addM R 0 1 q m = plusL p q := by rw [HM.out, HR.out]; unfold plusL; rw [← hmax.out]
        exact ⟨w.heap.size, p.length, by rw [plusL_length, ← hmax.out]; rfl, by rw [← hp2]; exact hO, Nat.le_refl _, by rw [plusL_length, ← hmax.out]; exact Nat.le_refl _, hB⟩
end Go.Proofs.Ytknfkhackmnnaaa
