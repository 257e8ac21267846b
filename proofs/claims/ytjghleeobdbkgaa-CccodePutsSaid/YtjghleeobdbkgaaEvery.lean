/- The reference walks all codes into a list. -/
import Derived.Test.YtjghleeobdbkgaaLists
namespace Go.Proofs.Ytjghleeobdbkgaa
open Go.RowKit Pl
set_option linter.unusedVariables false
theorem own_stays {B : Nat} {E : TypeId} {s n : Nat} {v : Value} {xs : List Value} {w w' : World} (hown : w.ownsRow B E s v n xs) (hb : Below w.heap.size w w') : w'.ownsRow B E s v n xs := by
  refine ⟨hown.1, ?_⟩
  rcases hown.2 with h | ⟨g', c', cur', hv, hgb, hgg, rest⟩
  · exact Or.inl h
  · exact Or.inr ⟨g', c', cur', hv, hgb, by rw [hb.block _ (Array.getElem?_eq_some_iff.1 hgg).1]; exact hgg, rest⟩
theorem row_keep {B B' s s' n m : Nat} {v u : Value} {xs ys : List Value} {wr W1 w' : World} (hg : W1.grownBy w' v.ownBlock) (hs : wr.ownsRow B' 24 s' u m ys) (hb : Below wr.heap.size wr W1) (hown : W1.ownsRow B 26 s v n xs) : w'.ownsRow B' 24 s' u m ys :=
  (own_stays hs hb).kept hg (rows_apart hown (own_stays hs hb))
theorem below_grow {B : Nat} {w w1 w2 : World} (h : Below B w w1) (hz : B ≤ w1.heap.size) (h2 : Below w1.heap.size w1 w2) : Below B w w2 := h.trans (h2.mono hz)
set_option maxHeartbeats 4000000 in
theorem every_any (w : World) : Calls Try.prog 32 #[] w (Made w.heap.size 26 6 480 (cvs ev) w) := by
  obtain ⟨i0, hi, hz0, hz1, hz2⟩ := info_parts info26
  go_enter Try.func32, Try.ntmps32
  go_wp2_with fail
  go_loopw [1, 10] (fun v i wr => ∃ k : Nat, k ≤ 15 ∧ i = .int .i64 k ∧ wr.ownsRow w.heap.size 26 6 v (A1 k).length (cvs (A1 k)) ∧ Below w.heap.size w wr) (fun _ i _ => 15 - (intOf i).toNat)
  case atStart => exact ⟨0, by omega, rfl, World.ownsRow_nil _ _ _ _, Below.refl _ _⟩
  case round =>
    obtain ⟨k, hk, rfl, hown, hB⟩ := hrel
    have hsz := hB.size
    by_cases hlt : k < 15
    · go_wp2_with fail
      refine (styles_any _).mono ?_
      rintro e wo ⟨s, rfl, hs, hb⟩
      obtain ⟨g, cap, rfl, hc1, hc2, hg1, hg2⟩ := own_slice hs (by omega)
      have hB1 := below_grow hB hsz hb
      have hown1 := own_stays hown hb
      rw [← A2_zero] at hown1
      have hsz1 := hB1.size
      clear hb hown hB hsz
      go_wp2_with fail
      go_loopw [1, 15] (fun v i wr => ∃ j : Nat, j ≤ 16 ∧ i = .int .i64 j ∧ wr.ownsRow w.heap.size 26 6 v (A2 k j).length (cvs (A2 k j)) ∧ Below w.heap.size w wr ∧ ∃ B', wr.ownsRow B' 24 3 (.slice (some ⟨g, 0, none⟩) 16 cap) 16 (svs stys)) (fun _ i _ => 16 - (intOf i).toNat)
      case atStart => exact ⟨0, by omega, rfl, hown1, hB1, _, hs⟩
      case round =>
        obtain ⟨j, hj, rfl, hown2, hB2, B2, hs2⟩ := hrel
        have hsz2 := hB2.size
        by_cases hjt : j < 16
        · obtain ⟨s0, s1, s2⟩ := svs_get j hjt
          have c0 := own_cell hs2 s0
          have c1 := own_cell hs2 s1
          have c2 := own_cell hs2 s2
          clear s0 s1 s2
          go_wp2_with (at_builtin; refine wpList_append_own _ rfl _ _ 39 rfl w.heap.size 26 i0 _ 6 32 Try.underlying39 hi hz0 hz1 hz2 rfl (by decide) _ _ _ rfl ((hown2.alloc _).alloc _) ⟨wr.heap.size + 1, 0, none⟩ 1 1 [.int .u8 1, .int .i64 (k : Int), .int .i64 0, .int .u8 (stn j).1, .bool (stn j).2.1, .bool (stn j).2.2] rfl rfl ?c1 ?c2 ?c3 ?c4 ?c5 ?_)
          case c1 => exact cells_new _ _ _ (by simp)
          case c2 => simp [Value.oneCell']
          case c3 => have hl := len2 k j; unfold maxLen; omega
          case c4 => have hl := len2 k j; omega
          case c5 => simp; omega
          · intro v' w1 hown' hgrow _
            have R := code_step (news := [((1, (k : Int), 0, stn j) : Cd)]) ((hown2.alloc _).alloc _) rfl rfl ((hB2.alloc hsz2 _).alloc (by simp; omega) _) (by simp; omega) hown' hgrow
            have hs3 := row_keep hgrow hs2 (((Below.refl _ _).alloc (Nat.le_refl _) _).alloc (by simp) _) ((hown2.alloc _).alloc _)
            rw [← A2_succ] at R
            clear hown' hgrow hown2 hB2 hs2 c0 c1 c2
            go_wp2_with fail
            go_roundw
            case rel => exact ⟨j + 1, by omega, by go_num, R.1, R.2, _, hs3⟩
            case measure => simp [intOf]; omega
        · obtain rfl : j = 16 := by omega
          rw [← A3_zero] at hown2
          clear hs hs2 hown1 hB1
          go_wp2_with fail
          go_loopw [1, 5] (fun v i wr => ∃ m : Nat, m ≤ 7 ∧ i = .int .i64 (4 * ((m : Int) + 1)) ∧ wr.ownsRow w.heap.size 26 6 v (A3 k m).length (cvs (A3 k m)) ∧ Below w.heap.size w wr) (fun _ i _ => (32 - intOf i).toNat)
          case atStart => exact ⟨0, by omega, rfl, hown2, hB2⟩
          case round =>
            clear hown2 hB2 hsz2
            obtain ⟨m, hm, rfl, hown2, hB2⟩ := hrel
            have hsz2 := hB2.size
            by_cases hmt : m < 7
            · go_wp2_with (at_builtin; refine wpList_append_own _ rfl _ _ 39 rfl w.heap.size 26 i0 _ 6 32 Try.underlying39 hi hz0 hz1 hz2 rfl (by decide) _ _ _ rfl (hown2.alloc _) ⟨wr.heap.size, 0, none⟩ 2 2 [.int .u8 1, .int .i64 (k : Int), .int .i64 (4 * ((m : Int) + 1)), .int .u8 0, .bool false, .bool false, .int .u8 1, .int .i64 (k : Int), .int .i64 (4 * ((m : Int) + 1)), .int .u8 0, .bool false, .bool true] rfl rfl ?d1 ?d2 ?d3 ?d4 ?d5 ?_)
              case d1 => exact cells_new _ _ _ (by simp)
              case d2 => simp [Value.oneCell']
              case d3 => have hl := len3 k m; unfold maxLen; omega
              case d4 => have hl := len3 k m; omega
              case d5 => simp; omega
              · intro v' w1 hown' hgrow _
                have R := code_step (news := [((1, (k : Int), 4 * ((m : Int) + 1), 0, false, false) : Cd), (1, (k : Int), 4 * ((m : Int) + 1), 0, false, true)]) (hown2.alloc _) rfl rfl (hB2.alloc hsz2 _) (by simp; omega) hown' hgrow
                rw [← A3_succ] at R
                clear hown' hgrow hown2 hB2
                go_wp2_with fail
                go_roundw
                case rel => first | exact ⟨m + 1, by omega, by go_num, R.1, R.2⟩ | ((repeat apply Exists.intro); exact ⟨⟨m + 1, by omega, by go_num, R.1, R.2⟩, rfl⟩)
                case measure => simp [intOf]; omega
            · obtain rfl : m = 7 := by omega
              rw [← A1_succ] at hown2
              go_wp2_with fail
              go_roundw
              case rel => exact ⟨k + 1, by omega, by go_num, hown2, hB2⟩
              case measure => simp [intOf]; omega
    · obtain rfl : k = 15 := by omega
      go_wp2_with fail
      refine (styles_any _).mono ?_
      rintro e wo ⟨s, rfl, hs, hb⟩
      obtain ⟨g, cap, rfl, hc1, hc2, hg1, hg2⟩ := own_slice hs (by omega)
      have hB1 := below_grow hB hsz hb
      have hown1 := own_stays hown hb
      rw [← A4_zero] at hown1
      have hsz1 := hB1.size
      clear hb hown hB hsz
      go_wp2_with fail
      go_loopw [1, 43] (fun v i wr => ∃ j : Nat, j ≤ 16 ∧ i = .int .i64 j ∧ wr.ownsRow w.heap.size 26 6 v (A4 j).length (cvs (A4 j)) ∧ Below w.heap.size w wr ∧ ∃ B', wr.ownsRow B' 24 3 (.slice (some ⟨g, 0, none⟩) 16 cap) 16 (svs stys)) (fun _ i _ => 16 - (intOf i).toNat)
      case atStart => exact ⟨0, by omega, rfl, hown1, hB1, _, hs⟩
      case round =>
        obtain ⟨j, hj, rfl, hown2, hB2, B2, hs2⟩ := hrel
        have hsz2 := hB2.size
        by_cases hjt : j < 16
        · obtain ⟨s0, s1, s2⟩ := svs_get j hjt
          have c0 := own_cell hs2 s0
          have c1 := own_cell hs2 s1
          have c2 := own_cell hs2 s2
          clear s0 s1 s2
          go_wp2_with (at_builtin; refine wpList_append_own _ rfl _ _ 39 rfl w.heap.size 26 i0 _ 6 32 Try.underlying39 hi hz0 hz1 hz2 rfl (by decide) _ _ _ rfl ((hown2.alloc _).alloc _) ⟨wr.heap.size + 1, 0, none⟩ 1 1 [.int .u8 2, .int .i64 0, .int .i64 0, .int .u8 (stn j).1, .bool (stn j).2.1, .bool (stn j).2.2] rfl rfl ?e1 ?e2 ?e3 ?e4 ?e5 ?_)
          case e1 => exact cells_new _ _ _ (by simp)
          case e2 => simp [Value.oneCell']
          case e3 => have hl := len4 j; unfold maxLen; omega
          case e4 => have hl := len4 j; omega
          case e5 => simp; omega
          · intro v' w1 hown' hgrow _
            have R := code_step (news := [((2, 0, 0, stn j) : Cd)]) ((hown2.alloc _).alloc _) rfl rfl ((hB2.alloc hsz2 _).alloc (by simp; omega) _) (by simp; omega) hown' hgrow
            have hs3 := row_keep hgrow hs2 (((Below.refl _ _).alloc (Nat.le_refl _) _).alloc (by simp) _) ((hown2.alloc _).alloc _)
            rw [← A4_succ] at R
            clear hown' hgrow hown2 hB2 hs2 c0 c1 c2
            go_wp2_with fail
            go_roundw
            case rel => exact ⟨j + 1, by omega, by go_num, R.1, R.2, _, hs3⟩
            case measure => simp [intOf]; omega
        · obtain rfl : j = 16 := by omega
          rw [← A5_zero] at hown2
          clear hs hs2 hown1 hB1
          go_wp2_with fail
          go_loopw [1, 8] (fun v i wr => ∃ m : Nat, m ≤ 3 ∧ i = .int .i64 ((m : Int) + 1) ∧ wr.ownsRow w.heap.size 26 6 v (A5 m).length (cvs (A5 m)) ∧ Below w.heap.size w wr) (fun _ i _ => (4 - intOf i).toNat)
          case atStart => exact ⟨0, by omega, rfl, hown2, hB2⟩
          case round =>
            clear hown2 hB2 hsz2
            obtain ⟨m, hm, rfl, hown2, hB2⟩ := hrel
            have hsz2 := hB2.size
            by_cases hmt : m < 3
            · go_wp2_with (at_builtin; refine wpList_append_own _ rfl _ _ 39 rfl w.heap.size 26 i0 _ 6 32 Try.underlying39 hi hz0 hz1 hz2 rfl (by decide) _ _ _ rfl (hown2.alloc _) ⟨wr.heap.size, 0, none⟩ 1 1 [.int .u8 3, .int .i64 0, .int .i64 ((m : Int) + 1), .int .u8 0, .bool false, .bool false] rfl rfl ?f1 ?f2 ?f3 ?f4 ?f5 ?_)
              case f1 => exact cells_new _ _ _ (by simp)
              case f2 => simp [Value.oneCell']
              case f3 => have hl := len5 m; unfold maxLen; omega
              case f4 => have hl := len5 m; omega
              case f5 => simp; omega
              · intro v' w1 hown' hgrow _
                have R := code_step (news := [((3, 0, (m : Int) + 1, 0, false, false) : Cd)]) (hown2.alloc _) rfl rfl (hB2.alloc hsz2 _) (by simp; omega) hown' hgrow
                rw [← A5_succ] at R
                clear hown' hgrow hown2 hB2
                go_wp2_with fail
                go_roundw
                case rel => first | exact ⟨m + 1, by omega, by go_num, R.1, R.2⟩ | ((repeat apply Exists.intro); exact ⟨⟨m + 1, by omega, by go_num, R.1, R.2⟩, rfl⟩)
                case measure => simp [intOf]; omega
            · obtain rfl : m = 3 := by omega
              rw [← A6_zero] at hown2
              go_wp2_with fail
              go_loopw [1, 9] (fun v i wr => ∃ m : Nat, m ≤ 11 ∧ i = .int .u8 ((m : Int) + 4) ∧ wr.ownsRow w.heap.size 26 6 v (A6 m).length (cvs (A6 m)) ∧ Below w.heap.size w wr) (fun _ i _ => (15 - intOf i).toNat)
              case atStart => exact ⟨0, by omega, rfl, hown2, hB2⟩
              case round =>
                clear hown2 hB2 hsz2
                obtain ⟨m, hm, rfl, hown2, hB2⟩ := hrel
                have hsz2 := hB2.size
                by_cases hmt : m < 11
                · go_wp2_with (at_builtin; refine wpList_append_own _ rfl _ _ 39 rfl w.heap.size 26 i0 _ 6 32 Try.underlying39 hi hz0 hz1 hz2 rfl (by decide) _ _ _ rfl (hown2.alloc _) ⟨wr.heap.size, 0, none⟩ 1 1 [.int .u8 ((m : Int) + 4), .int .i64 0, .int .i64 0, .int .u8 0, .bool false, .bool false] rfl rfl ?g1 ?g2 ?g3 ?g4 ?g5 ?_)
                  case g1 => exact cells_new _ _ _ (by simp)
                  case g2 => simp [Value.oneCell']
                  case g3 => have hl := len6 m; unfold maxLen; omega
                  case g4 => have hl := len6 m; omega
                  case g5 => simp; omega
                  · intro v' w1 hown' hgrow _
                    have R := code_step (news := [(((m : Int) + 4, 0, 0, 0, false, false) : Cd)]) (hown2.alloc _) rfl rfl (hB2.alloc hsz2 _) (by simp; omega) hown' hgrow
                    rw [← A6_succ] at R
                    clear hown' hgrow hown2 hB2
                    go_wp2_with fail
                    go_roundw
                    case rel => first | exact ⟨m + 1, by omega, by go_num, R.1, R.2⟩ | ((repeat apply Exists.intro); exact ⟨⟨m + 1, by omega, by go_num, R.1, R.2⟩, rfl⟩)
                    case measure => simp [intOf]; omega
                · obtain rfl : m = 11 := by omega
                  rw [len6, A6_ev] at hown2
                  go_wp2_with fail
                  go_ret
                  exact ⟨_, rfl, hown2, hB2⟩
end Go.Proofs.Ytjghleeobdbkgaa
