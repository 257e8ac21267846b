/- The program's preamble of a pair, walked. -/
import Derived.Test.YtjghleeobdbkgaaPuts
namespace Go.Proofs.Ytjghleeobdbkgaa
open Go.RowKit Pl
set_option linter.unusedVariables false
def getV (o : Option Cd) : Value := .tuple #[cv (o.getD zero), .bool o.isSome]
theorem preL_hit {one two k : Int} (h0 : 0 ≤ k) (h15 : k < 15) (hm : ∀ j : Int, 0 ≤ j → j < k → hit one two j = false) (hk : hit one two k = true) : preL one two rows15 = some (pre1 two k) := by
  have a0 := hm 0 (by omega); have a1 := hm 1 (by omega); have a2 := hm 2 (by omega); have a3 := hm 3 (by omega); have a4 := hm 4 (by omega); have a5 := hm 5 (by omega); have a6 := hm 6 (by omega); have a7 := hm 7 (by omega)
  have a8 := hm 8 (by omega); have a9 := hm 9 (by omega); have a10 := hm 10 (by omega); have a11 := hm 11 (by omega); have a12 := hm 12 (by omega); have a13 := hm 13 (by omega)
  rcases row_cases h0 h15 with rfl | rfl | rfl | rfl | rfl | rfl | rfl | rfl | rfl | rfl | rfl | rfl | rfl | rfl | rfl
  all_goals simp_all [preL, rows15]
theorem preL_none {one two : Int} (hm : ∀ j : Int, 0 ≤ j → j < 15 → hit one two j = false) : preL one two rows15 = none := by
  have a0 := hm 0 (by omega) (by omega); have a1 := hm 1 (by omega) (by omega); have a2 := hm 2 (by omega) (by omega); have a3 := hm 3 (by omega) (by omega); have a4 := hm 4 (by omega) (by omega); have a5 := hm 5 (by omega) (by omega); have a6 := hm 6 (by omega) (by omega); have a7 := hm 7 (by omega) (by omega)
  have a8 := hm 8 (by omega) (by omega); have a9 := hm 9 (by omega) (by omega); have a10 := hm 10 (by omega) (by omega); have a11 := hm 11 (by omega) (by omega); have a12 := hm 12 (by omega) (by omega); have a13 := hm 13 (by omega) (by omega); have a14 := hm 14 (by omega) (by omega)
  simp_all [preL, rows15]
theorem hit_no {one two k : Int} (h : one ≠ fst1 k ∨ two < ofs k ∨ ofs k + 32 ≤ two) : hit one two k = false := by
  unfold hit
  rcases h with h | h | h
  · simp [h]
  · simp [Int.not_le.2 h]
  · simp [Int.not_lt.2 h]
set_option maxHeartbeats 4000000 in
theorem preamble_any (one two : Int) (h1 : 0 ≤ one) (h2 : 0 ≤ two) (h3 : two ≤ 255) (w : World) :
    Calls Try.prog 30 #[.int .u8 one, .int .u8 two] w fun e w' => e = .returned (getV (preL one two rows15)) ∧ Below w.heap.size w w' := by
  go_enter Try.func30, Try.ntmps30
  go_wp2_with fail
  go_loop [10] (fun i => ∃ k : Int, 0 ≤ k ∧ k ≤ 15 ∧ i = .int .i64 k ∧ Hid (∀ j : Int, 0 ≤ j → j < k → hit one two j = false)) (fun i => (15 - intOf i).toNat)
  case atStart => exact ⟨0, by omega, by omega, rfl, fun j a b => by omega⟩
  case round =>
    obtain ⟨k, hk0, hk15, rfl, hm⟩ := hrel
    by_cases hlt : k < 15
    · have hb := row_bd hk0 hlt
      by_cases hn : one ≠ fst1 k ∨ two < ofs k ∨ ofs k + 32 ≤ two
      · have hno := Lib.hid (hit_no hn)
        have hcs : (one != fst1 k) = true ∨ ((one != fst1 k) = false ∧ two < ofs k) ∨ ((one != fst1 k) = false ∧ ofs k ≤ two ∧ ofs k + 32 ≤ two) := by
          by_cases he : one = fst1 k
          · right
            have : (one != fst1 k) = false := by simp [he]
            rcases hn with hn | hn | hn
            · exact absurd he hn
            · exact Or.inl ⟨this, hn⟩
            · by_cases h4 : two < ofs k
              · exact Or.inl ⟨this, h4⟩
              · exact Or.inr ⟨this, by omega, hn⟩
          · left; simp [he]
        clear hn
        rcases hcs with c1 | ⟨c1, c2⟩ | ⟨c1, c2, c3⟩
        all_goals
          go_wp2_with (go_at_call 23; refine (first_any _ hk0 hlt _).mono ?_; rintro e w2 ⟨rfl, rfl⟩)
          go_round
          case rel => exact ⟨k + 1, by omega, by omega, by go_num, fun j a b => by
            by_cases hj : j = k
            · rw [hj]; exact hno.out
            · exact hm.out j a (by omega)⟩
          case measure => simp [intOf]; omega
      · obtain ⟨rfl, c2, c3⟩ : one = fst1 k ∧ ofs k ≤ two ∧ two < ofs k + 32 := by omega
        have hh : hit (fst1 k) two k = true := by simp [hit, c2, c3]
        have hp : preL (fst1 k) two rows15 = some (pre1 two k) := preL_hit hk0 hlt hm.out hh
        have c1 : (fst1 k != fst1 k) = false := by simp
        clear hh hn
        by_cases h16 : two - ofs k < 16
        · have he : getV (preL (fst1 k) two rows15) = .tuple #[.agg #[.int .u8 1, .int .i64 k, .int .i64 0, .int .u8 (std (two - ofs k)).1, .bool (std (two - ofs k)).2.1, .bool (std (two - ofs k)).2.2], .bool true] := by
            rw [hp]; unfold pre1; rw [if_pos h16]; rfl
          have He := Lib.hid he; clear he hp
          go_wp2_with (go_at_call 23; refine (first_any _ hk0 hlt _).mono ?_; rintro e w2 ⟨rfl, rfl⟩)
          go_wp2_with fail
          refine (styled_any _ (by omega) _).mono ?_
          rintro e w2 ⟨rfl, hb2⟩
          obtain ⟨hcl, hfr⟩ := bcell hb2
          go_wp2_with fail
          refine bodyPost_ret (v := .tuple #[.agg #[.int .u8 1, .int .i64 k, .int .i64 0, .int .u8 (std (two - ofs k)).1, .bool (std (two - ofs k)).2.1, .bool (std (two - ofs k)).2.2], .bool true]) (by simp [results, Try.results30, go_sem, hcl]) rfl ⟨by rw [He.out], ?_⟩
          iterate 6 refine Below.setCell ?_ (by exact Nat.le_refl _) _
          exact below_alloc _ hb2
        · have he : getV (preL (fst1 k) two rows15) = .tuple #[.agg #[.int .u8 1, .int .i64 k, .int .i64 ((two - ofs k - 16) / 2 * 4), .int .u8 0, .bool false, .bool ((two - ofs k - 16) % 2 == 1)], .bool true] := by
            rw [hp]; unfold pre1; rw [if_neg h16]; rfl
          have He := Lib.hid he; clear he hp
          go_wp2_with (go_at_call 23; refine (first_any _ hk0 hlt _).mono ?_; rintro e w2 ⟨rfl, rfl⟩)
          refine bodyPost_ret (v := .tuple #[.agg #[.int .u8 1, .int .i64 k, .int .i64 ((two - ofs k - 16) / 2 * 4), .int .u8 0, .bool false, .bool ((two - ofs k - 16) % 2 == 1)], .bool true]) (by simp [results, Try.results30, go_sem]) rfl ⟨by rw [He.out], ?_⟩
          exact below1 _ (Nat.le_refl _)
    · obtain rfl : k = 15 := by omega
      have he : getV (preL one two rows15) = .tuple #[.agg #[.int .u8 0, .int .i64 0, .int .i64 0, .int .u8 0, .bool false, .bool false], .bool false] := by
        rw [preL_none hm.out]; rfl
      have He := Lib.hid he; clear he
      go_wp2_with fail
      refine bodyPost_ret (v := .tuple #[.agg #[.int .u8 0, .int .i64 0, .int .i64 0, .int .u8 0, .bool false, .bool false], .bool false]) (by simp [results, Try.results30, go_sem]) rfl ⟨by rw [He.out], ?_⟩
      exact below1 _ (Nat.le_refl _)
end Go.Proofs.Ytjghleeobdbkgaa
