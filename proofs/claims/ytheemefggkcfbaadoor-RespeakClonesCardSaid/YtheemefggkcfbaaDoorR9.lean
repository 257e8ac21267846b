import Derived.Test.YtheemefggkcfbaaDoorR8
namespace Go.Proofs.YtheemefggkcfbaaDoor
open Go Go.Lib Go.RowKit Go.Shelf
theorem enc3 (c : Nat) (h : 2048 ≤ c) (h2 : c ≤ 65535) (hs : c < 55296 ∨ 57343 < c) : ∃ x y z : UInt8, Utf8.encode (c : Int) = ⟨#[x, y, z]⟩ ∧ y.toNat = 128 + c / 64 % 64 ∧ z.toNat = 128 + c % 64 := by
  have hv : Utf8.valid (c : Int) = true := by simp [Utf8.valid]; omega
  refine ⟨UInt8.ofNat (224 + c / 4096), UInt8.ofNat (128 + c / 64 % 64), UInt8.ofNat (128 + c % 64), ?_, ?_, ?_⟩
  · unfold Utf8.encode
    rw [hv]
    simp only [if_true, Int.toNat_natCast]
    rw [if_neg (by omega), if_neg (by omega), if_pos (by omega)]
  · rw [UInt8.toNat_ofNat_of_lt']; show 128 + c / 64 % 64 < 256; omega
  · rw [UInt8.toNat_ofNat_of_lt']; show 128 + c % 64 < 256; omega
theorem enc4 (c : Nat) (h : 65536 ≤ c) (h2 : c ≤ 1114111) : ∃ x y z u : UInt8, Utf8.encode (c : Int) = ⟨#[x, y, z, u]⟩ := by
  have hv : Utf8.valid (c : Int) = true := by simp [Utf8.valid]; omega
  refine ⟨UInt8.ofNat (240 + c / 262144), UInt8.ofNat (128 + c / 4096 % 64), UInt8.ofNat (128 + c / 64 % 64), UInt8.ofNat (128 + c % 64), ?_⟩
  unfold Utf8.encode
  rw [hv]
  simp only [if_true, Int.toNat_natCast]
  rw [if_neg (by omega), if_neg (by omega), if_neg (by omega)]
theorem valid_any2 (c : Nat) (h2 : c ≤ 1114111) (hs : c < 55296 ∨ 57343 < c) : Lib.validRune (c : Int) = true := by
  unfold Lib.validRune; simp; omega
theorem conv_rune (c : Nat) (R : ByteArray) (he : Utf8.encode (c : Int) = R) (W : World) : (convert 21 9 (.int .i32 (c : Int))).run Tryd.prog W = .ok (.string R) W := by
  rw [← he]
  simp [convert, run_underlying Tryd.underlying21, run_underlying Tryd.underlying9, Conv.intToString]
set_option maxHeartbeats 4000000 in
set_option maxRecDepth 100000 in
theorem irune_four (c : Nat) (h : 65536 ≤ c) (h2 : c ≤ 1114111) (w : World) : Calls Tryd.prog 118 #[.string nbs, .int .i32 (c : Int)] w fun e w' => e = .returned (.int .i64 (-1)) ∧ Below w.heap.size w w' := by
  obtain ⟨x, y, z, u, he⟩ := enc4 c h h2
  have cV := Tryd.utf8_ValidRune (c : Int) w
  rw [valid_any2 c h2 (by omega)] at cV
  have hconv := conv_rune c _ he
  have z1 : (0 : Int) ≤ (c : Int) := by omega
  have z2 : ¬ (c : Int) < 128 := by omega
  have z3 : ((c : Int) == 65533) = false := by simp; omega
  have hS : nbs.size = 3 := rfl
  have hR : (⟨#[x, y, z, u]⟩ : ByteArray).size = 4 := rfl
  generalize (⟨#[x, y, z, u]⟩ : ByteArray) = R at *
  generalize nbs = S at *
  clear he
  go_enter Tryd.func118, Tryd.ntmps118
  go_upto_block 1 with (go_at_call 136; refine cV.mono ?_; rintro e w1 ⟨rfl, hw1⟩; rw [hw1]; clear hw1)
  go_step3
  go_wp2_with fail
  go_loop [9] (fun v => v = .int .i64 3) (fun _ => 0)
  case atStart => rfl
  case round =>
    subst hrel
    go_wp2_with fail
    go_ret
    exact ⟨rfl, Below.refl _ _⟩
theorem ib_nil (y : UInt8) : Lib.indexByte ((⟨#[]⟩ : ByteArray).data.toList) y = -1 := rfl
set_option maxHeartbeats 4000000 in
set_option maxRecDepth 100000 in
theorem irune_three (c : Nat) (h : 2048 ≤ c) (h2 : c ≤ 65535) (hs : c < 55296 ∨ 57343 < c) (hb : c ≠ 65533) (w : World) : Calls Tryd.prog 118 #[.string nbs, .int .i32 (c : Int)] w fun e w' => e = .returned (.int .i64 (-1)) ∧ Below w.heap.size w w' := by
  obtain ⟨x, y, z, he, hy, hz⟩ := enc3 c h h2 hs
  have cV := Tryd.utf8_ValidRune (c : Int) w
  rw [valid_any2 c (by omega) hs] at cV
  have hconv := conv_rune c _ he
  have z1 : (0 : Int) ≤ (c : Int) := by omega
  have z2 : ¬ (c : Int) < 128 := by omega
  have z3 : ((c : Int) == 65533) = false := by simp; omega
  have cI := fun W => Tryd.strings_IndexByte ⟨#[]⟩ (z.toNat : Int) W
  rw [show ((z.toNat : Int)).toNat.toUInt8 = z by simp, ib_nil, show (⟨#[]⟩ : ByteArray) = ByteArray.empty from rfl] at cI
  have iS1 := idx_run nbs 1 194 (by decide) (by decide) 1 rfl
  have iS2 := idx_run nbs 2 160 (by decide) (by decide) 2 rfl
  have iR2 := idx_run ⟨#[x, y, z]⟩ 2 z.toNat (by show 2 < 3; omega) rfl 2 rfl
  have iR1 := idx_run ⟨#[x, y, z]⟩ 1 y.toNat (by show 1 < 3; omega) rfl 1 rfl
  have hS : nbs.size = 3 := rfl
  have hR : (⟨#[x, y, z]⟩ : ByteArray).size = 3 := rfl
  generalize (⟨#[x, y, z]⟩ : ByteArray) = R at *
  generalize nbs = S at *
  generalize y.toNat = yN at *
  generalize z.toNat = zN at *
  have hyy : ((194 : Int) != (yN : Int)) = true := by simp; omega
  have Hz := Lib.hid hz
  clear he hy hz
  go_enter Tryd.func118, Tryd.ntmps118
  go_upto_block 1 with (go_at_call 136; refine cV.mono ?_; rintro e w1 ⟨rfl, hw1⟩; rw [hw1]; clear hw1)
  go_step3
  go_wp2_with fail
  go_loopw [9, 10] (fun v u wx => Below w.heap.size w wx ∧ ((v = .int .i64 2 ∧ u = .int .i64 0) ∨ (v = .int .i64 3 ∧ u = .int .i64 1))) (fun v _ _ => 3 - (intOf v).toNat)
  case atStart => exact ⟨Below.refl _ _, Or.inl ⟨rfl, rfl⟩⟩
  case round =>
    obtain ⟨hb, ⟨rfl, rfl⟩ | ⟨rfl, rfl⟩⟩ := hrel
    · by_cases hz160 : zN = 160
      · subst hz160
        go_wp2_with fail
        refine wp_scope_forward 0 rfl ?_
        go_upto_region 6 with fail
        go_quiet (fail)
        go_wp2_with fail
        go_loopw [12] (fun v wx => Below w.heap.size w wx ∧ v = .int .i64 1) (fun _ _ => 0)
        case atStart => exact ⟨below_dn hb _, rfl⟩
        case round =>
          clear hb
          obtain ⟨hb, rfl⟩ := hrel
          go_wp2_with fail
          go_quiet (fail)
          go_wp2_with fail
          go_step3
          go_wp2_with fail
          refine jump_goto ?_
          go_wp2_with (go_at_call 125; refine (cutover_any _).mono ?_; rintro e w3 ⟨rfl, rfl⟩)
          rw [Exit.noGoto_normal]
          simp only [Exit.inBlock]
          go_roundw
          case rel =>
            (repeat apply Exists.intro)
            refine ⟨?_, rfl⟩
            exact ⟨below_dn hb _, Or.inr ⟨rfl, rfl⟩⟩
          case measure => simp [intOf]
      · have hzz : ((160 : Int) != (zN : Int)) = true := by simp; omega
        go_wp2_with fail
        go_step3
        go_upto_region 6 with fail
        go_quiet (fail)
        go_upto_region 7 with fail
        go_region_with (go_at_call 135; refine (cI _).mono ?_; rintro e w2 ⟨rfl, hw2⟩; rw [hw2]; clear hw2)
        all_goals
          go_wp2_with fail
          rw [Exit.noGoto_ret]
          simp only [Exit.inBlock]
          go_wp2_with fail
          rw [Exit.noGoto_ret]
          simp only [Exit.inBlock]
          go_ret
          exact ⟨rfl, below_dn hb _⟩
    · go_wp2_with fail
      rw [Exit.noGoto_ret]
      go_ret
      exact ⟨rfl, hb⟩
end Go.Proofs.YtheemefggkcfbaaDoor
