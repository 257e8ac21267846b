/- The places of the rows in the reference, walked. -/
import Derived.Test.YtjghleeobdbkgaaSmall
namespace Go.Proofs.Ytjghleeobdbkgaa
open Go.RowKit Pl
theorem row_cases' {r : Int} (h1 : 0 ≤ r) (h2 : r < 15) : r = 0 ∨ r = 1 ∨ r = 2 ∨ r = 3 ∨ r = 4 ∨ r = 5 ∨ r = 6 ∨ r = 7 ∨ r = 8 ∨ r = 9 ∨ r = 10 ∨ r = 11 ∨ r = 12 ∨ r = 13 ∨ r = 14 := by omega
set_option maxHeartbeats 4000000 in
theorem place_any (r : Int) (h1 : 0 ≤ r) (h2 : r < 15) (w : World) :
    Calls Try.prog 27 #[.int .i64 r] w fun e w' => e = .returned (.tuple #[.int .u8 (fst1 r), .int .u8 (ofs r)]) ∧ Below w.heap.size w w' := by
  rcases row_cases' h1 h2 with rfl | rfl | rfl | rfl | rfl | rfl | rfl | rfl | rfl | rfl | rfl | rfl | rfl | rfl | rfl
  all_goals
    clear h1 h2
    go_enter Try.func27, Try.ntmps27
    go_wp2
    go_quiet (fail)
    go_wp2
    go_ret2
    exact ⟨rfl, below_drewN _ ((below1 _ (Nat.le_refl _)).alloc (by simp) _)⟩
set_option maxHeartbeats 400000 in
theorem seconds_any (w : World) :
    Calls Try.prog 29 #[] w fun e w' => e = .returned (.slice (some ⟨w.heap.size, 0, none⟩) 11 11) ∧ (w.alloc (.cells #[.int .u8 32, .int .u8 33, .int .u8 36, .int .u8 37, .int .u8 38, .int .u8 39, .int .u8 41, .int .u8 44, .int .u8 45, .int .u8 46, .int .u8 47] 5)) = w' := by
  go_enter Try.func29, Try.ntmps29
  go_wp2
  go_ret
  exact ⟨rfl, rfl⟩
end Go.Proofs.Ytjghleeobdbkgaa
