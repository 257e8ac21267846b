/- The rows and the second bytes of the codes, and the styles of numbers, walked. -/
import Derived.Test.YtjghleeobdbkgaaSmall
namespace Go.Proofs.Ytjghleeobdbkgaa
open Go.RowKit Pl
theorem row_cases {r : Int} (h1 : 0 ≤ r) (h2 : r < 15) : r = 0 ∨ r = 1 ∨ r = 2 ∨ r = 3 ∨ r = 4 ∨ r = 5 ∨ r = 6 ∨ r = 7 ∨ r = 8 ∨ r = 9 ∨ r = 10 ∨ r = 11 ∨ r = 12 ∨ r = 13 ∨ r = 14 := by omega
theorem kind_cases {k : Int} (h1 : 4 ≤ k) (h2 : k ≤ 14) : k = 4 ∨ k = 5 ∨ k = 6 ∨ k = 7 ∨ k = 8 ∨ k = 9 ∨ k = 10 ∨ k = 11 ∨ k = 12 ∨ k = 13 ∨ k = 14 := by omega
theorem idx50 (r : Int) (h1 : 0 ≤ r) (h2 : r < 15) (w : World) : (Instr.index 50 (.agg #[.int .u8 17, .int .u8 17, .int .u8 18, .int .u8 18, .int .u8 21, .int .u8 21, .int .u8 22, .int .u8 22, .int .u8 23, .int .u8 23, .int .u8 16, .int .u8 19, .int .u8 19, .int .u8 20, .int .u8 20]) (.int .i64 r)).run Try.prog w = .ok (.int .u8 (fst1 r)) w := by
  rcases row_cases h1 h2 with rfl | rfl | rfl | rfl | rfl | rfl | rfl | rfl | rfl | rfl | rfl | rfl | rfl | rfl | rfl
  all_goals kernel_rfl
theorem idx51 (k : Int) (h1 : 4 ≤ k) (h2 : k ≤ 14) (w : World) : (Instr.index 51 (.agg #[.int .u8 32, .int .u8 33, .int .u8 36, .int .u8 37, .int .u8 38, .int .u8 39, .int .u8 41, .int .u8 44, .int .u8 45, .int .u8 46, .int .u8 47]) (.int .u8 (k - 4))).run Try.prog w = .ok (.int .u8 (snd2 k)) w := by
  rcases kind_cases h1 h2 with rfl | rfl | rfl | rfl | rfl | rfl | rfl | rfl | rfl | rfl | rfl
  all_goals kernel_rfl
set_option maxHeartbeats 2000000 in
theorem first_any (r : Int) (h1 : 0 ≤ r) (h2 : r < 15) (w : World) :
    Calls Try.prog 23 #[.int .i64 r] w fun e w' => e = .returned (.tuple #[.int .u8 (fst1 r), .int .u8 (ofs r)]) ∧ w = w' := by
  rcases row_cases h1 h2 with rfl | rfl | rfl | rfl | rfl | rfl | rfl | rfl | rfl | rfl | rfl | rfl | rfl | rfl | rfl
  all_goals
    have i0 := idx50 _ h1 h2
    clear h1 h2
    go_enter Try.func23, Try.ntmps23
    go_wp2
    go_ret2
    exact ⟨rfl, rfl⟩
set_option maxHeartbeats 2000000 in
theorem second_any (k : Int) (h1 : 4 ≤ k) (h2 : k ≤ 14) (w : World) :
    Calls Try.prog 26 #[.int .u8 k] w fun e w' => e = .returned (.int .u8 (snd2 k)) ∧ w = w' := by
  have i0 := idx51 k h1 h2
  go_enter Try.func26, Try.ntmps26
  go_wp2
  go_ret
  exact ⟨rfl, rfl⟩
theorem styled_hi (n : Int) (h1 : 14 ≤ n) (w : World) :
    Calls Try.prog 31 #[.int .u8 n] w fun e w' => e = .returned (.agg #[.int .u8 0, .bool true, .bool (n == 15)]) ∧ Below w.heap.size w w' := by
  go_enter Try.func31, Try.ntmps31
  go_wp2
  refine bodyPost_ret (v := .agg #[.int .u8 0, .bool true, .bool (n == 15)]) (by simp [results, Try.results31, go_sem]) rfl ⟨rfl, below1 _ (Nat.le_refl _)⟩
theorem styled_lo (n : Int) (h1 : 0 ≤ n) (h2 : n < 14) (w : World) :
    Calls Try.prog 31 #[.int .u8 n] w fun e w' => e = .returned (.agg #[.int .u8 (n / 2), .bool false, .bool (n % 2 == 1)]) ∧ Below w.heap.size w w' := by
  go_enter Try.func31, Try.ntmps31
  go_wp2
  refine bodyPost_ret (v := .agg #[.int .u8 (n / 2), .bool false, .bool (n % 2 == 1)]) (by simp [results, Try.results31, go_sem]) rfl ⟨rfl, below1 _ (Nat.le_refl _)⟩
theorem styled_any (n : Int) (h1 : 0 ≤ n) (w : World) :
    Calls Try.prog 31 #[.int .u8 n] w fun e w' => e = .returned (.agg #[.int .u8 (std n).1, .bool (std n).2.1, .bool (std n).2.2]) ∧ Below w.heap.size w w' := by
  by_cases h : 14 ≤ n
  · have e : std n = (0, true, n == 15) := by simp [std, h]
    rw [e]; exact styled_hi n h w
  · have e : std n = (n / 2, false, n % 2 == 1) := by simp [std, h]
    rw [e]; exact styled_lo n h1 (by omega) w
set_option maxHeartbeats 400000 in
theorem rnumber_any (c : Int) (i u : Bool) (hc : 0 ≤ c) (h : sty c i = true) (w : World) :
    Calls Try.prog 28 #[.agg #[.int .u8 c, .bool i, .bool u]] w fun e w' => e = .returned (.int .u8 (num c i u)) ∧ Below w.heap.size w w' := by
  cases i
  · have h6 : c ≤ 6 := by simpa [sty] using h
    clear h
    cases u
    · go_enter Try.func28, Try.ntmps28
      go_wp2
      go_ret
      exact ⟨ret_int (by simp [num, fl]), below1 _ (Nat.le_refl _)⟩
    · go_enter Try.func28, Try.ntmps28
      go_wp2
      go_ret
      exact ⟨ret_int (by simp [num, fl]), below1 _ (Nat.le_refl _)⟩
  · have h6 : c = 0 := by simpa [sty] using h
    subst h6
    clear h
    cases u
    · go_enter Try.func28, Try.ntmps28
      go_wp2
      go_ret
      exact ⟨ret_int (by simp [num, fl]), below1 _ (Nat.le_refl _)⟩
    · go_enter Try.func28, Try.ntmps28
      go_wp2
      go_ret
      exact ⟨ret_int (by simp [num, fl]), below1 _ (Nat.le_refl _)⟩
end Go.Proofs.Ytjghleeobdbkgaa
