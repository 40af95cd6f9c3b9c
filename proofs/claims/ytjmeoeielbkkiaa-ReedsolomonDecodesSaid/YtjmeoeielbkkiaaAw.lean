import Derived.Test.YtjmeoeielbkkiaaSd
set_option maxRecDepth 100000
set_option linter.unusedVariables false
set_option linter.unusedSimpArgs false
namespace Go.Proofs.Ytjmeoeielbkkiaa
open Go.RowKit Go.Deep
theorem aw_cw : Gf.IsCw [1, 3, 2] 2 := fun j hj => by
  rcases j with _ | _ | j
  · decide +kernel
  · decide +kernel
  · omega
theorem aw_near1 : Gf.Near [1, 7, 2] 2 (erN []) [1, 3, 2] := ⟨rfl, aw_cw, by decide +kernel⟩
theorem aw_near2 : Gf.Near [9, 3, 2] 2 (erN [0]) [1, 3, 2] := ⟨rfl, aw_cw, by decide +kernel⟩
theorem aw_enc (w : World) : Calls Try.prog 12 #[.string ⟨#[1]⟩, .int .i64 2] w fun e w' => Ret1 w (.tuple #[.string ⟨#[1, 3, 2]⟩, .int .i64 0]) e w' := by
  refine (encode_yes ⟨#[1]⟩ 2 (by decide) w).mono ?_
  rintro e w' ⟨r, rfl, hr, hc, hB⟩
  refine ⟨?_, hB⟩
  have h := Gf.enc_unique (p := 2) (d := [1]) (r := r) (r' := [3, 2]) (by simp) hr rfl hc aw_cw
  subst h
  rfl
theorem aw_dec1 (w : World) : Calls Try.prog 21 #[.string ⟨#[1, 7, 2]⟩, .int .i64 2, .slice none 0 0] w fun e w' => Ret1 w (.tuple #[.string ⟨#[1, 3, 2]⟩, .int .i64 1, .int .i64 0]) e w' := by
  have hP : posN 3 [] 0 := fun j hj => by omega
  refine (decode_yes ⟨#[1, 7, 2]⟩ 2 [] none 0 (by decide) (by simp) w (RdI.nil _ _)).mono ?_
  rintro e w' ⟨hB, ⟨hn, rfl⟩ | ⟨_, cw, hc, rfl⟩ | ⟨_, hn, rfl⟩⟩
  · exact absurd hP hn
  · have h := Gf.near_unique (w := [1, 7, 2]) (er := erN []) (by decide) ⟨by simp [erN], by simp [erN]⟩ hc aw_near1
    subst h
    exact ⟨rfl, hB⟩
  · exact absurd ⟨_, aw_near1⟩ hn
theorem aw_dec2 (w : World) (b : Nat) (hr : RdI w (some ⟨b, 0, none⟩) [0]) : Calls Try.prog 21 #[.string ⟨#[9, 3, 2]⟩, .int .i64 2, .slice (some ⟨b, 0, none⟩) 1 1] w fun e w' => Ret1 w (.tuple #[.string ⟨#[1, 3, 2]⟩, .int .i64 1, .int .i64 0]) e w' := by
  have hP : posN 3 [0] 1 := fun j hj => by
    obtain rfl : j = 0 := by omega
    exact ⟨by decide, by decide, fun h => absurd h (by decide)⟩
  refine (decode_yes ⟨#[9, 3, 2]⟩ 2 [0] (some ⟨b, 0, none⟩) 1 (by decide) (by simp) w hr).mono ?_
  rintro e w' ⟨hB, ⟨hn, rfl⟩ | ⟨_, cw, hc, rfl⟩ | ⟨_, hn, rfl⟩⟩
  · exact absurd hP hn
  · have h := Gf.near_unique (w := [9, 3, 2]) (er := erN [0]) (by decide) ⟨by simp [erN], by simp [erN]⟩ hc aw_near2
    subst h
    exact ⟨rfl, hB⟩
  · exact absurd ⟨_, aw_near2⟩ hn
theorem aw_valid (w : World) : Calls Try.prog 17 #[.string ⟨#[1, 3, 2]⟩, .int .i64 2] w fun e w' => Ret1 w (.bool true) e w' := by
  refine (valid_any ⟨#[1, 3, 2]⟩ 2 w).mono ?_
  rintro e w' ⟨rfl, hB⟩
  refine ⟨?_, hB⟩
  exact congrArg (fun b => Ending.returned (Value.bool b)) ((vld_iff ⟨#[1, 3, 2]⟩ 2).2 ⟨by decide, aw_cw⟩)
set_option maxRecDepth 100000 in
set_option maxHeartbeats 1000000 in
theorem awake_any (w : World) : Calls Try.prog 11 #[] w fun e w' => Ret1 w (.bool true) e w' := by
  go_enter Try.func11, Try.ntmps11
  go_wp2_with fail
  refine (aw_enc _).mono ?_
  rintro e w1 ⟨rfl, hB1⟩
  go_wp2_with fail
  refine (aw_dec1 _).mono ?_
  rintro e w2 ⟨rfl, hB2⟩
  have hB2' := hB1.trans (hB2.mono hB1.size)
  clear hB1 hB2
  go_wp2_with fail
  have hr : RdI (w2.alloc (.cells #[.int .i64 0] 3)) (some ⟨w2.heap.size, 0, none⟩) [0] := fun _ => ⟨_, _, rfl, by rw [World.size_alloc]; omega, fun j hj => by
    obtain rfl : j = 0 := by simpa using hj
    unfold World.cell?
    dsimp only
    rw [heap_alloc_new]
    rfl⟩
  have hB3 := hB2'.alloc hB2'.size (.cells #[.int .i64 0] 3)
  refine (aw_dec2 _ _ hr).mono ?_
  rintro e w3 ⟨rfl, hB4⟩
  have hB5 := hB3.trans (hB4.mono hB3.size)
  clear hB2' hB3 hB4 hr
  go_wp2_with fail
  refine (aw_valid _).mono ?_
  rintro e w4 ⟨rfl, hB6⟩
  have hB7 := hB5.trans (hB6.mono hB5.size)
  go_wp2
  go_ret
  exact ⟨rfl, hB7⟩
end Go.Proofs.Ytjmeoeielbkkiaa
