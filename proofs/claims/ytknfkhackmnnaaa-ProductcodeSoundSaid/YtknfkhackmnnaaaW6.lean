import Derived.Test.YtknfkhackmnnaaaW2
set_option maxRecDepth 100000
set_option linter.unusedVariables false
set_option linter.unusedSimpArgs false
namespace Go.Proofs.Ytknfkhackmnnaaa
open Go Go.RowKit Go.Deep
/-! the symbols of a word are written -/
def putK (l : List UInt8) (f : Nat) (os : List Nat) (s : List UInt8) : Nat → List UInt8
  | 0 => l
  | k + 1 => if f ≤ os.getD k 0 then (putK l f os s k).set (os.getD k 0) (Gf.co s k) else putK l f os s k
def chK (l : List UInt8) (f : Nat) (os : List Nat) (s : List UInt8) : Nat → Bool
  | 0 => false
  | k + 1 => if f ≤ os.getD k 0 then (chK l f os s k || (Gf.co (putK l f os s k) (os.getD k 0) != Gf.co s k)) else chK l f os s k
theorem putK_length (l : List UInt8) (f : Nat) (os : List Nat) (s : List UInt8) : ∀ k, (putK l f os s k).length = l.length
  | 0 => rfl
  | k + 1 => by
    simp only [putK]
    split
    · rw [List.length_set, putK_length l f os s k]
    · exact putK_length l f os s k
theorem grown_drewN (w : World) (n : Nat) (r : Option Nat) : w.grownBy (w.drewN n) r := ⟨rfl, rfl, rfl, Nat.le_refl _, fun _ _ _ => rfl⟩
theorem bne_u8 {a b : UInt8} (h : a ≠ b) : ((a.toNat : Int) != (b.toNat : Int)) = true := by
  rw [bne_iff_ne]
  exact fun e => h (u8_inj e)
theorem bne_u8' {a b : UInt8} (h : a = b) : ((a.toNat : Int) != (b.toNat : Int)) = false := by rw [h]; simp
set_option maxRecDepth 100000 in
set_option maxHeartbeats 2000000 in
theorem put_any (l : List UInt8) (os : List Nat) (f : Nat) (s : ByteArray) (hos : ∀ j, j < os.length → os.getD j 0 < l.length) (hn : os.length ≤ 1000) (hs : os.length ≤ s.size) (hll : l.length ≤ 100000) (hf : f ≤ 1000) (b cl g c : Nat) (w : World) (hl : Own w b l) (hg : RdN w g os) (hgw : g < w.heap.size) (hgb : g ≠ b) :
    Calls Try.prog 37 #[.slice (some ⟨b, 0, none⟩) l.length cl, .slice (some ⟨g, 0, none⟩) os.length c, .int .i64 (f : Int), .string s] w fun e w' => e = .returned (.bool (chK l f os (bl s) os.length)) ∧ Own w' b (putK l f os (bl s) os.length) ∧ w.grownBy w' (some b) := by
  obtain ⟨n, hnn⟩ : ∃ n, n = os.length := ⟨_, rfl⟩
  rw [← hnn] at hn hs ⊢
  have HN := Lib.hid hnn
  have hos' : ∀ j, j < n → os.getD j 0 < l.length := fun j hj => hos j (by rw [← hnn]; exact hj)
  have hg' : ∀ j, j < n → w.cell? ⟨g, j, none⟩ = some (.int .i64 ((os.getD j 0 : Nat) : Int)) := fun j hj => hg j (by rw [← hnn]; exact hj)
  clear hnn hos hg
  go_enter Try.func37, Try.ntmps37
  go_wp2
  go_loopw [9, 14] (fun v i wr => ∃ (k : Nat) (d : Bool), k ≤ n ∧ i = .int .i64 k ∧ v = .bool d ∧ Hid (d = chK l f os (bl s) k) ∧ Own wr b (putK l f os (bl s) k) ∧ w.grownBy wr (some b)) (fun _ i _ => n - (intOf i).toNat)
  case atStart => exact ⟨0, false, by omega, rfl, rfl, rfl, hl, World.grownBy.refl _ _⟩
  case round =>
    obtain ⟨k, d, hk, rfl, rfl, hd, hO, hG⟩ := hrel
    by_cases hlt : k < n
    · have hck : wr.cell? ⟨g, k, none⟩ = some (.int .i64 ((os.getD k 0 : Nat) : Int)) := (World.cell?_of_block (hG.block g hgw (fun e => hgb (by cases e; rfl)))).trans (hg' k hlt)
      have hxl := hos' k hlt
      have hpn := fun h => show putK l f os (bl s) (k + 1) = putK l f os (bl s) k from if_neg (h : ¬ f ≤ os.getD k 0)
      have hpy := fun h => show putK l f os (bl s) (k + 1) = (putK l f os (bl s) k).set (os.getD k 0) (Gf.co (bl s) k) from if_pos (h : f ≤ os.getD k 0)
      have hcn := fun h => show chK l f os (bl s) (k + 1) = chK l f os (bl s) k from if_neg (h : ¬ f ≤ os.getD k 0)
      have hcy := fun h => show chK l f os (bl s) (k + 1) = (chK l f os (bl s) k || (Gf.co (putK l f os (bl s) k) (os.getD k 0) != Gf.co (bl s) k)) from if_pos (h : f ≤ os.getD k 0)
      have hpl := putK_length l f os (bl s) k
      revert hck hxl hpn hpy hcn hcy
      generalize os.getD k 0 = x
      intro hck hxl hpn hpy hcn hcy
      by_cases hfx : f ≤ x
      · have hb2 : k < s.size := by omega
        have eb := byte_at s k hb2
        have hi0 : (0 : Int) ≤ (k : Int) := by omega
        have hi1 : (k : Int) < (s.size : Int) := by omega
        have hco : ∀ m, (wr.drewN m).cell? ⟨b, x, none⟩ = some (B (Gf.co (putK l f os (bl s) k) x)) := fun m => hO.cell (j := x) (by omega)
        have hfo : ∀ m, (wr.drewN m).frozen? ⟨b, x, none⟩ = false := fun m => hO.free (j := x) (by omega)
        have hO2 : Hid (∀ m, Own ((wr.drewN m).setCell ⟨b, x, none⟩ (B (Gf.co (bl s) k))) b (putK l f os (bl s) (k + 1))) := fun m => by
          rw [hpy hfx]
          exact Row.set (w := wr.drewN m) hO (by omega) _
        have hG2 : Hid (∀ m, w.grownBy ((wr.drewN m).setCell ⟨b, x, none⟩ (B (Gf.co (bl s) k))) (some b)) := fun m => (hG.trans (grown_drewN wr m _)).trans (Lib.grownBy_setCell _ b x _)
        have hd2 := hcy hfx
        rw [← hd.out] at hd2
        have HD := Lib.hid hd2
        clear hpn hpy hcn hcy hd2 hO hG
        cases d with
        | true =>
          have hd3 : Hid (true = chK l f os (bl s) (k + 1)) := by
            show _ = _
            rw [HD.out]
            rfl
          clear hd HD
          go_wp2
          clear hck
          go_quiet (fail)
          go_wp2
          go_roundw
          case rel => exact ⟨k + 1, true, by omega, by go_num, rfl, hd3, hO2.out _, hG2.out _⟩
          case measure => simp [intOf]; omega
        | false =>
          by_cases hne : Gf.co (putK l f os (bl s) k) x = Gf.co (bl s) k
          · have hbn := bne_u8' hne
            have hd3 : Hid (false = chK l f os (bl s) (k + 1)) := by
              show _ = _
              rw [HD.out, hne]
              simp
            clear hd HD hne
            go_wp2
            clear hck
            go_quiet (fail)
            go_wp2
            go_roundw
            case rel => exact ⟨k + 1, false, by omega, by go_num, rfl, hd3, hO2.out _, hG2.out _⟩
            case measure => simp [intOf]; omega
          · have hbn := bne_u8 hne
            have hd3 : Hid (true = chK l f os (bl s) (k + 1)) := by
              show _ = _
              rw [HD.out, Bool.false_or]
              exact (bne_iff_ne.2 hne).symm
            clear hd HD hne
            go_wp2
            clear hck
            go_quiet (fail)
            go_wp2
            go_roundw
            case rel => exact ⟨k + 1, true, by omega, by go_num, rfl, hd3, hO2.out _, hG2.out _⟩
            case measure => simp [intOf]; omega
      · have hO2 : Hid (Own wr b (putK l f os (bl s) (k + 1))) := by
          show Own _ _ _
          rw [hpn hfx]
          exact hO
        have hd2 : Hid (d = chK l f os (bl s) (k + 1)) := by
          show _ = _
          rw [hcn hfx]
          exact hd.out
        clear hpn hpy hcn hcy hO
        go_wp2
        go_roundw
        case rel => exact ⟨k + 1, d, by omega, by go_num, rfl, hd2, hO2.out, hG⟩
        case measure => simp [intOf]; omega
    · have hkp : k = n := by omega
      subst hkp
      go_wp2
      go_ret
      exact ⟨by rw [← hd.out]; rfl, hO, hG⟩
end Go.Proofs.Ytknfkhackmnnaaa
