import Derived.Test.YtheemefggkcfbaaDoorR7
import Derived.WalkMore
import Derived.ScopeJumps
import Derived.Deep.RegionWith
import Derived.Deep.CutBlock
namespace Go.Proofs.YtheemefggkcfbaaDoor
open Go Go.Lib Go.RowKit Go.Shelf
def nbs : ByteArray := ⟨#[32, 194, 160]⟩
theorem nbs_dec0 : Utf8.decode nbs 0 = (32, 1) := by decide +kernel
theorem nbs_dec1 : Utf8.decode nbs 1 = (160, 2) := by decide +kernel
set_option maxHeartbeats 4000000 in
set_option maxRecDepth 100000 in
theorem irune_bad (w : World) : Calls Tryd.prog 118 #[.string nbs, .int .i32 65533] w fun e w' => e = .returned (.int .i64 (-1)) ∧ Below w.heap.size w w' := by
  have hsz : nbs.size = 3 := rfl
  have D0 := Lib.hid nbs_dec0
  have D1 := Lib.hid nbs_dec1
  generalize nbs = S at *
  have HS := Lib.hid hsz
  clear hsz
  go_enter Tryd.func118, Tryd.ntmps118
  go_wp2_with fail
  go_loopw [] (fun w' => ∃ (pos : Nat), w' = w.iter S pos ∧ (pos = 0 ∨ pos = 1 ∨ pos = 3)) (fun w' => 3 - w'.iterPos w.heap.size)
  case atStart => exact ⟨0, rfl, Or.inl rfl⟩
  case round =>
    obtain ⟨pos, rfl, h | h | h⟩ := hrel
    · subst h
      have hnx : ∀ ty, (Instr.next (.pointer (some ⟨w.heap.size, 0, none⟩)) true ty).run Tryd.prog (w.iter S 0) = _ := fun ty => run_next_any w S 0 ty (by rw [HS.out]; omega)
      rw [D0.out] at hnx
      go_wp2
      go_roundw
      case rel => exact ⟨1, rfl, Or.inr (Or.inl rfl)⟩
      case measure => simp
    · subst h
      have hnx : ∀ ty, (Instr.next (.pointer (some ⟨w.heap.size, 0, none⟩)) true ty).run Tryd.prog (w.iter S 1) = _ := fun ty => run_next_any w S 1 ty (by rw [HS.out]; omega)
      rw [D1.out] at hnx
      go_wp2
      go_roundw
      case rel => exact ⟨3, rfl, Or.inr (Or.inr rfl)⟩
      case measure => simp
    · subst h
      have hnx : ∀ ty, (Instr.next (.pointer (some ⟨w.heap.size, 0, none⟩)) true ty).run Tryd.prog (w.iter S 3) = _ := fun ty => run_next_end w S 3 ty (by rw [HS.out]; omega)
      go_wp2
      go_ret
      exact ⟨rfl, below_iter _ _ _⟩
/-- A scope that is left or jumped forward in once. -/
theorem wp_scope_forward {P : Program} {a : Act} {w : World} {Q : Exit → Act → World → Prop} {c rest : Code} (l : Nat) (hf : findLabel c l = some rest)
    (h : c.wp P (Exit.jump l (fun a w => rest.wp P (Exit.noGoto Q) a w) Q) a w) : (Code.scope c).wp P Q a w := by
  refine wp_scope_jumps l (fun a w => rest.wp P (Exit.noGoto Q) a w) (fun _ _ => 0) hf h ?_
  intro a w hr
  refine wp_mono hr ?_
  intro e a' w' hq
  cases e with
  | goto l' => exact hq.elim
  | normal => exact hq
  | exit id => exact hq
  | ret => exact hq
  | panic ch => exact hq
  | outgrown => exact hq
theorem jump_ret {l : Nat} {J : Act → World → Prop} {Q : Exit → Act → World → Prop} {a : Act} {w : World} : Exit.jump l J Q .ret a w = Q .ret a w := rfl
theorem jump_normal {l : Nat} {J : Act → World → Prop} {Q : Exit → Act → World → Prop} {a : Act} {w : World} : Exit.jump l J Q .normal a w = Q .normal a w := rfl
theorem jump_goto {l : Nat} {J : Act → World → Prop} {Q : Exit → Act → World → Prop} {a : Act} {w : World} (h : J a w) : Exit.jump l J Q (.goto l) a w := ⟨rfl, h⟩
theorem below_dn {B : Nat} {a w : World} (h : Below B a w) (n : Nat) : Below B a (w.drewN n) := ⟨h.os, h.tape, h.output, h.size, h.block⟩
theorem enc2 (c : Nat) (h : 128 ≤ c) (h2 : c ≤ 2047) : ∃ x y : UInt8, Utf8.encode (c : Int) = ⟨#[x, y]⟩ ∧ x.toNat = 192 + c / 64 ∧ y.toNat = 128 + c % 64 := by
  have hv : Utf8.valid (c : Int) = true := by simp [Utf8.valid]; omega
  refine ⟨UInt8.ofNat (192 + c / 64), UInt8.ofNat (128 + c % 64), ?_, ?_, ?_⟩
  · unfold Utf8.encode
    rw [hv]
    simp only [if_true, Int.toNat_natCast]
    rw [if_neg (by omega), if_pos (by omega)]
  · rw [UInt8.toNat_ofNat_of_lt']; show 192 + c / 64 < 256; omega
  · rw [UInt8.toNat_ofNat_of_lt']; show 128 + c % 64 < 256; omega
theorem valid2 (c : Nat) (h : 128 ≤ c) (h2 : c ≤ 2047) : Lib.validRune (c : Int) = true := by
  unfold Lib.validRune; simp; omega
theorem idx_run (s : ByteArray) (i : Nat) (v : Nat) (h : i < s.size) (hv : (s.data.toList.getD i 0).toNat = v) (z : Int) (hz : z = (i : Int)) (W : World) : (Instr.index 9 (.string s) (.int .i64 z)).run Tryd.prog W = .ok (.int .u8 (v : Int)) W := by
  subst hz hv; exact idx_str s i h W
theorem ib160 (y : UInt8) : Lib.indexByte ((⟨#[160]⟩ : ByteArray).data.toList) y = if y.toNat = 160 then 0 else -1 := by
  show Lib.indexByte [160] y = _
  unfold Lib.indexByte Lib.indexByte
  by_cases h : y.toNat = 160
  · have : y = 160 := UInt8.toNat_inj.1 h
    subst this; rfl
  · rw [if_neg h]
    have : ¬ (160 : UInt8) = y := fun e => h (by rw [← e]; rfl)
    simp [this]
set_option maxHeartbeats 1000000 in
theorem cutover_any (w : World) : Calls Tryd.prog 125 #[.int .i64 3] w fun e w' => e = .returned (.int .i64 2) ∧ w = w' := by
  go_enter Tryd.func125, Tryd.ntmps125
  go_wp2
  go_ret
  exact ⟨rfl, rfl⟩
set_option maxHeartbeats 4000000 in
set_option maxRecDepth 100000 in
theorem irune_two (c : Nat) (h : 128 ≤ c) (h2 : c ≤ 2047) (w : World) : Calls Tryd.prog 118 #[.string nbs, .int .i32 (c : Int)] w fun e w' => e = .returned (.int .i64 (if c = 160 then 1 else -1)) ∧ Below w.heap.size w w' := by
  obtain ⟨x, y, he, hx, hy⟩ := enc2 c h h2
  have cV := Tryd.utf8_ValidRune (c : Int) w
  rw [valid2 c h h2] at cV
  have hconv : ∀ W, (convert 21 9 (.int .i32 (c : Int))).run Tryd.prog W = .ok (.string ⟨#[x, y]⟩) W := by
    intro W
    rw [← he]
    simp [convert, run_underlying Tryd.underlying21, run_underlying Tryd.underlying9, Conv.intToString]
  have z1 : (0 : Int) ≤ (c : Int) := by omega
  have z2 : ¬ (c : Int) < 128 := by omega
  have z3 : ((c : Int) == 65533) = false := by simp; omega
  have cI := fun W => Tryd.strings_IndexByte ⟨#[160]⟩ (y.toNat : Int) W
  rw [show ((y.toNat : Int)).toNat.toUInt8 = y by simp, ib160] at cI
  have iS := idx_run nbs 1 194 (by decide) (by decide) 1 rfl
  have iR1 := idx_run ⟨#[x, y]⟩ 1 y.toNat (by show 1 < 2; omega) rfl 1 rfl
  have iR0 := idx_run ⟨#[x, y]⟩ 0 x.toNat (by show 0 < 2; omega) rfl 0 rfl
  rw [show (⟨#[160]⟩ : ByteArray) = nbs.extract 2 3 by decide +kernel] at cI
  have hS : nbs.size = 3 := rfl
  have hR : (⟨#[x, y]⟩ : ByteArray).size = 2 := rfl
  generalize (⟨#[x, y]⟩ : ByteArray) = R at *
  generalize nbs = S at *
  generalize x.toNat = xN at *
  generalize y.toNat = yN at *
  have HZ1 : Hid (c = 160 → (if c = 160 then (1 : Int) else -1) = 1) := Lib.hid (fun h => if_pos h)
  have HZ2 : Hid (c ≠ 160 → (if c = 160 then (1 : Int) else -1) = -1) := Lib.hid (fun h => if_neg h)
  generalize (if c = 160 then (1 : Int) else -1) = Z at *
  have Hx := Lib.hid hx
  have Hy := Lib.hid hy
  clear he hx hy
  go_enter Tryd.func118, Tryd.ntmps118
  go_upto_block 1 with (go_at_call 136; refine cV.mono ?_; rintro e w1 ⟨rfl, hw1⟩; rw [hw1]; clear hw1)
  go_step3
  go_wp2_with fail
  go_loopw [9, 10] (fun v u wx => Below w.heap.size w wx ∧ ((v = .int .i64 1 ∧ u = .int .i64 0) ∨ (v = .int .i64 3 ∧ u = .int .i64 1 ∧ Hid (Z = -1)))) (fun v _ _ => 3 - (intOf v).toNat)
  case atStart => exact ⟨Below.refl _ _, Or.inl ⟨rfl, rfl⟩⟩
  case round =>
    obtain ⟨hb, ⟨rfl, rfl⟩ | ⟨rfl, rfl, HZ⟩⟩ := hrel
    · by_cases hy160 : yN = 160
      · rw [if_pos hy160] at cI
        subst hy160
        by_cases hx194 : xN = 194
        · have HZ : Hid (Z = 1) := Lib.hid (HZ1.out (by have h1 : 160 = 128 + c % 64 := Hy.out; have h2 : xN = 192 + c / 64 := Hx.out; omega))
          have hxx : ((194 : Int) != (xN : Int)) = false := by simp; omega
          go_wp2_with fail
          go_step3
          go_upto_region 6 with fail
          go_quiet (fail)
          go_upto_region 7 with fail
          go_cut [11] (fun s11 wx => s11 = .int .i64 0 ∧ Below w.heap.size w wx)
          case first =>
            go_region_with (go_at_call 135; refine (cI _).mono ?_; rintro e w2 ⟨rfl, hw2⟩; rw [hw2]; clear hw2)
            all_goals
              go_wp2_with fail
              go_meet
              exact ⟨rfl, below_dn hb _⟩
          case rest =>
            clear hb
            obtain ⟨rfl, hb⟩ := hcut
            go_wp2_with fail
            go_loopw [12] (fun v wx => Below w.heap.size w wx ∧ (v = .int .i64 1 ∨ v = .int .i64 2)) (fun v _ => 2 - (intOf v).toNat)
            case atStart => exact ⟨hb, Or.inl rfl⟩
            case round =>
              clear hb
              obtain ⟨hb, rfl | rfl⟩ := hrel
              · go_wp2_with fail
                go_quiet (fail)
                go_wp2_with fail
                go_roundw
                case rel => exact ⟨below_dn hb _, Or.inr rfl⟩
                case measure => simp [intOf]
              · go_wp2_with fail
                rw [Exit.noGoto_ret]
                simp only [Exit.inBlock]
                go_wp2_with fail
                rw [Exit.noGoto_ret]
                simp only [Exit.inBlock]
                go_ret
                exact ⟨ret_int HZ.out.symm, hb⟩
        · have HZ : Hid (Z = -1) := Lib.hid (HZ2.out (by intro hc; apply hx194; have h2 : xN = 192 + c / 64 := Hx.out; rw [h2, hc]))
          have hxx : ((194 : Int) != (xN : Int)) = true := by simp; omega
          go_wp2_with fail
          refine wp_scope_forward 0 rfl ?_
          go_upto_region 6 with fail
          go_quiet (fail)
          go_upto_region 7 with fail
          go_cut [11] (fun s11 wx => s11 = .int .i64 0 ∧ Below w.heap.size w wx)
          case first =>
            go_region_with (go_at_call 135; refine (cI _).mono ?_; rintro e w2 ⟨rfl, hw2⟩; rw [hw2]; clear hw2)
            all_goals
              go_wp2_with fail
              go_meet
              exact ⟨rfl, below_dn hb _⟩
          case rest =>
            clear hb
            obtain ⟨rfl, hb⟩ := hcut
            go_wp2_with fail
            go_loopw [12] (fun v wx => Below w.heap.size w wx ∧ v = .int .i64 1) (fun _ _ => 0)
            case atStart => exact ⟨hb, rfl⟩
            case round =>
              clear hb
              obtain ⟨hb, rfl⟩ := hrel
              go_wp2_with fail
              go_quiet (fail)
              go_wp2_with fail
              go_step3
              go_wp2_with fail
              refine jump_goto ?_
              go_wp2_with (go_at_call 125; refine (cutover_any _).mono ?_; rintro e w3 ⟨rfl, rfl⟩)
              rw [Exit.noGoto_normal]
              simp only [Exit.inBlock]
              go_roundw
              case rel =>
                (repeat apply Exists.intro)
                refine ⟨?_, rfl⟩
                exact ⟨below_dn hb _, Or.inr ⟨rfl, rfl, HZ⟩⟩
              case measure => simp [intOf]
      · have HZ : Hid (Z = -1) := Lib.hid (HZ2.out (by intro hc; apply hy160; have h1 : yN = 128 + c % 64 := Hy.out; rw [h1, hc]))
        have hyy : ((194 : Int) != (yN : Int)) = true := by have h1 : yN = 128 + c % 64 := Hy.out; simp; omega
        rw [if_neg hy160] at cI
        go_wp2_with fail
        go_step3
        go_upto_region 6 with fail
        go_quiet (fail)
        go_upto_region 7 with fail
        go_region_with (go_at_call 135; refine (cI _).mono ?_; rintro e w2 ⟨rfl, hw2⟩; rw [hw2]; clear hw2)
        all_goals
          go_wp2_with fail
          rw [Exit.noGoto_ret]
          simp only [Exit.inBlock]
          go_wp2_with fail
          rw [Exit.noGoto_ret]
          simp only [Exit.inBlock]
          go_ret
          exact ⟨ret_int HZ.out.symm, below_dn hb _⟩
    · go_wp2_with fail
      rw [Exit.noGoto_ret]
      go_ret
      exact ⟨ret_int HZ.out.symm, hb⟩
end Go.Proofs.YtheemefggkcfbaaDoor
