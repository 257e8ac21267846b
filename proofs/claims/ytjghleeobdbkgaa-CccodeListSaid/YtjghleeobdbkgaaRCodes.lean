/- The list of codes that the reference gives, walked. -/
import Derived.Test.YtjghleeobdbkgaaCodes
namespace Go.Proofs.Ytjghleeobdbkgaa
open Go.RowKit Pl
set_option linter.unusedVariables false
set_option maxRecDepth 100000 in
set_option maxHeartbeats 4000000 in
theorem rcodes_any (w : World) : Calls Try.prog 21 #[] w (Made w.heap.size 26 6 480 (cvs (K1 8)) w) := by
  obtain ⟨i0, hi, hz0, hz1, hz2⟩ := info_parts info26
  go_enter Try.func21, Try.ntmps21
  go_wp2_with fail
  go_loopw [1, 2] (fun v i wr => ∃ a : Nat, a ≤ 8 ∧ i = .int .i64 ((a : Int) + 16) ∧ wr.ownsRow w.heap.size 26 6 v (K1 a).length (cvs (K1 a)) ∧ Below w.heap.size w wr) (fun _ i _ => (24 - intOf i).toNat)
  case atStart => exact ⟨0, by omega, rfl, World.ownsRow_nil _ _ _ _, Below.refl _ _⟩
  case round =>
    obtain ⟨a, ha, rfl, hown, hB⟩ := hrel
    by_cases hlt : a < 8
    · rw [← K2_zero] at hown
      have hda : decide ((a : Int) + 16 ≤ 23) = true := by simp; omega
      go_wp2_with fail
      go_loopw [1, 3] (fun v i wr => ∃ b : Nat, b ≤ 96 ∧ i = .int .i64 ((b : Int) + 32) ∧ wr.ownsRow w.heap.size 26 6 v (K2 a b).length (cvs (K2 a b)) ∧ Below w.heap.size w wr) (fun _ i _ => (128 - intOf i).toNat)
      case atStart => exact ⟨0, by omega, rfl, hown, hB⟩
      case round =>
        clear hown hB
        obtain ⟨b, hb, rfl, hown, hB⟩ := hrel
        have hsz := hB.size
        by_cases hbt : b < 96
        · go_wp2_with fail
          refine (rget_any _ _ (by omega) (by omega) (by omega) _).mono ?_
          rintro e w1 ⟨rfl, hb1⟩
          have hB1 := below_grow hB hsz hb1
          have hown1 := own_stays hown hb1
          have hsz1 := hB1.size
          clear hB hown hb1 hsz
          rw [get_eq _ _ (by omega) (by omega)]
          cases hg : Pl.get ((a : Int) + 16) ((b : Int) + 32) with
          | none =>
            rw [getV_none]
            have hk : K2 a (b + 1) = K2 a b := by rw [K2_succ]; unfold keep; rw [hg]; simp
            have Hk := Lib.hid hk; clear hk hg
            go_wp2_with fail
            go_roundw
            case rel => first | exact ⟨b + 1, by omega, by go_num, by rw [Hk.out]; exact hown1.alloc _, hB1.alloc hsz1 _⟩ | ((repeat apply Exists.intro); refine ⟨?_, rfl⟩; exact ⟨b + 1, by omega, by go_num, by rw [Hk.out]; exact hown1.alloc _, hB1.alloc hsz1 _⟩)
            case measure => simp [intOf]; omega
          | some x =>
            obtain ⟨k, r, l, c, i, u⟩ := x
            have hc := get_col hg (by omega) (by omega)
            rw [getV_some]
            have Hg := Lib.hid hg; clear hg
            go_upto_region 9 with fail
            obtain ⟨W2, hW2, hb2⟩ := newWorld w1 (.cells #[.int .u8 k, .int .i64 r, .int .i64 l, .int .u8 c, .bool i, .bool u] 26)
            rw [← hW2]
            have Q2 := Row6.new w1 (.int .u8 k) (.int .i64 r) (.int .i64 l) (.int .u8 c) (.bool i) (.bool u) 26
            rw [← hW2] at Q2
            have hB2 := below_grow hB1 hsz1 hb2
            have hown2 := own_stays hown1 hb2
            have hsz2 := hB2.size
            clear hW2 hb2 hB1 hown1 hsz1
            obtain ⟨q0, q1, q2, q3, q4, q5, qf, ql⟩ := Q2.out
            go_wp2_with fail
            refine (rput_any k r l c i u hc _).mono ?_
            rintro e w3 ⟨rfl, hb3⟩
            obtain ⟨x, y, z, hp⟩ : ∃ x y z, Pl.put (k, r, l, c, i, u) = (x, y, z) := ⟨_, _, _, rfl⟩
            rw [putV_eq hp]
            have Q3 := Q2.step hb3
            have hB3 := below_grow hB2 hsz2 hb3
            have hown3 := own_stays hown2 hb3
            have hsz3 := hB3.size
            have hcell := put_bd hc hp
            obtain ⟨g1, g2, g3, g4⟩ := put_rng hc hp
            clear q0 q1 q2 q3 q4 q5 qf ql Q2 hB2 hown2 hsz2 hb3
            by_cases hn : x = (a : Int) + 16 ∧ y = (b : Int) + 32
            · have hk : K2 a (b + 1) = K2 a b ++ [((k, r, l, c, i, u) : Cd)] := by
                rw [K2_succ]; unfold keep; rw [Hg.out]; simp only []; rw [hp, if_pos hn]
              have Hk := Lib.hid hk; clear hk hp
              have hz : z = 0 := hcell (by omega)
              subst hz
              obtain ⟨rfl, rfl⟩ := hn
              clear hcell
              obtain ⟨q0, q1, q2, q3, q4, q5, qf, ql⟩ := Q3.out
              go_wp2_with (at_builtin; refine wpList_append_own _ rfl _ _ 39 rfl w.heap.size 26 i0 _ 6 32 Try.underlying39 hi hz0 hz1 hz2 rfl (by decide) _ _ _ rfl (hown3.alloc _) ⟨w3.heap.size, 0, none⟩ 1 1 [.int .u8 k, .int .i64 r, .int .i64 l, .int .u8 c, .bool i, .bool u] rfl rfl ?c1 ?c2 ?c3 ?c4 ?c5 ?_)
              case c1 => exact cells_new _ _ _ (by simp)
              case c2 => simp [Value.oneCell']
              case c3 => have hl := K2_le a b; unfold maxLen; omega
              case c4 => have hl := K2_le a b; omega
              case c5 => simp; omega
              · intro v' w4 hown' hgrow _
                have R := code_step (news := [((k, r, l, c, i, u) : Cd)]) (hown3.alloc _) rfl rfl (hB3.alloc hsz3 _) (by simp; omega) hown' hgrow
                clear hown' hgrow hown3 hB3 q0 q1 q2 q3 q4 q5 qf ql
                go_wp2_with fail
                go_roundw
                case rel => first | exact ⟨b + 1, by omega, by go_num, by rw [Hk.out]; exact R.1, R.2⟩ | ((repeat apply Exists.intro); refine ⟨?_, rfl⟩; exact ⟨b + 1, by omega, by go_num, by rw [Hk.out]; exact R.1, R.2⟩)
                case measure => simp [intOf]; omega
            · have hk : K2 a (b + 1) = K2 a b := by
                rw [K2_succ]; unfold keep; rw [Hg.out]; simp only []; rw [hp, if_neg hn]; simp
              have Hk := Lib.hid hk; clear hk hp
              have hcs : (x == (a : Int) + 16) = false ∨ ((x == (a : Int) + 16) = true ∧ (y == (b : Int) + 32) = false) := by
                by_cases h2 : x = (a : Int) + 16
                · right; refine ⟨by simp [h2], ?_⟩
                  simp; intro h3; exact hn ⟨h2, h3⟩
                · left; simp [h2]
              clear hn hcell
              rcases hcs with d1 | ⟨d1, d2⟩
              all_goals
                go_wp2_with fail
                go_roundw
                case rel => first | exact ⟨b + 1, by omega, by go_num, by rw [Hk.out]; exact hown3, hB3⟩ | ((repeat apply Exists.intro); refine ⟨?_, rfl⟩; exact ⟨b + 1, by omega, by go_num, by rw [Hk.out]; exact hown3, hB3⟩)
                case measure => simp [intOf]; omega
        · obtain rfl : b = 96 := by omega
          rw [← K1_succ] at hown
          go_wp2_with fail
          go_roundw
          case rel => first | exact ⟨a + 1, by omega, by go_num, hown, hB⟩ | ((repeat apply Exists.intro); refine ⟨?_, rfl⟩; exact ⟨a + 1, by omega, by go_num, hown, hB⟩)
          case measure => simp [intOf]; omega
    · obtain rfl : a = 8 := by omega
      rw [K_len] at hown
      go_wp2_with fail
      go_ret
      exact ⟨_, rfl, hown, hB⟩
end Go.Proofs.Ytjghleeobdbkgaa
