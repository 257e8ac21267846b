/- The reference's Check, walked: the other kinds. -/
import Derived.Test.YtjghleeobdbkgaaSmall
namespace Go.Proofs.Ytjghleeobdbkgaa
open Go.RowKit Pl
set_option maxHeartbeats 2000000 in
theorem rcheck3_bad (r l c : Int) (i u : Bool) (h : r ≠ 0 ∨ c ≠ 0 ∨ i = true ∨ u = true) (w : World) :
    Calls Try.prog 13 #[.agg #[.int .u8 3, .int .i64 r, .int .i64 l, .int .u8 c, .bool i, .bool u]] w fun e w' => e = .returned (.int .i64 1) ∧ Below w.heap.size w w' := by
  by_cases h1 : r = 0
  · subst h1
    have h2 : c ≠ 0 ∨ i = true ∨ u = true := by simpa using h
    clear h
    by_cases h3 : c = 0
    · subst h3
      cases i
      · cases u
        · simp at h2
        · clear h2
          go_enter Try.func13, Try.ntmps13
          go_wp2_with fail
          go_ret
          exact ⟨rfl, below1 _ (Nat.le_refl _)⟩
      · clear h2
        go_enter Try.func13, Try.ntmps13
        go_wp2_with fail
        go_ret
        exact ⟨rfl, below1 _ (Nat.le_refl _)⟩
    · clear h2
      have h4 : (c == 0) = false := by simpa using h3
      go_enter Try.func13, Try.ntmps13
      go_wp2_with fail
      go_ret
      exact ⟨rfl, below1 _ (Nat.le_refl _)⟩
  · have h2 : (r != 0) = true := by simpa using h1
    clear h
    go_enter Try.func13, Try.ntmps13
    go_wp2_with fail
    go_ret
    exact ⟨rfl, below1 _ (Nat.le_refl _)⟩

set_option maxHeartbeats 2000000 in
theorem rcheck3_rng (l : Int) (h : l < 1 ∨ 3 < l) (w : World) :
    Calls Try.prog 13 #[.agg #[.int .u8 3, .int .i64 0, .int .i64 l, .int .u8 0, .bool false, .bool false]] w fun e w' => e = .returned (.int .i64 2) ∧ Below w.heap.size w w' := by
  rcases h with h1 | h1
  all_goals
    go_enter Try.func13, Try.ntmps13
    go_wp2_with fail
    go_ret
    exact ⟨rfl, below1 _ (Nat.le_refl _)⟩

set_option maxHeartbeats 2000000 in
theorem rcheck3_ok (l : Int) (h1 : 1 ≤ l) (h2 : l ≤ 3) (w : World) :
    Calls Try.prog 13 #[.agg #[.int .u8 3, .int .i64 0, .int .i64 l, .int .u8 0, .bool false, .bool false]] w fun e w' => e = .returned (.int .i64 0) ∧ Below w.heap.size w w' := by
  go_enter Try.func13, Try.ntmps13
  go_wp2_with fail
  go_ret
  exact ⟨rfl, below1 _ (Nat.le_refl _)⟩

set_option maxHeartbeats 2000000 in
theorem rcheck4_bad (k r l c : Int) (i u : Bool) (hk : 4 ≤ k) (hk2 : k ≤ 14) (h : r ≠ 0 ∨ l ≠ 0 ∨ c ≠ 0 ∨ i = true ∨ u = true) (w : World) :
    Calls Try.prog 13 #[.agg #[.int .u8 k, .int .i64 r, .int .i64 l, .int .u8 c, .bool i, .bool u]] w fun e w' => e = .returned (.int .i64 1) ∧ Below w.heap.size w w' := by
  by_cases h1 : r = 0
  · subst h1
    have h2 : l ≠ 0 ∨ c ≠ 0 ∨ i = true ∨ u = true := by simpa using h
    clear h
    by_cases h5 : l = 0
    · subst h5
      have h3 : c ≠ 0 ∨ i = true ∨ u = true := by simpa using h2
      clear h2
      by_cases h4 : c = 0
      · subst h4
        cases i
        · cases u
          · simp at h3
          · clear h3
            go_enter Try.func13, Try.ntmps13
            go_wp2_with fail
            go_ret
            exact ⟨rfl, below1 _ (Nat.le_refl _)⟩
        · clear h3
          go_enter Try.func13, Try.ntmps13
          go_wp2_with fail
          go_ret
          exact ⟨rfl, below1 _ (Nat.le_refl _)⟩
      · clear h3
        have h6 : (c == 0) = false := by simpa using h4
        go_enter Try.func13, Try.ntmps13
        go_wp2_with fail
        go_ret
        exact ⟨rfl, below1 _ (Nat.le_refl _)⟩
    · clear h2
      have h6 : (l != 0) = true := by simpa using h5
      go_enter Try.func13, Try.ntmps13
      go_wp2_with fail
      go_ret
      exact ⟨rfl, below1 _ (Nat.le_refl _)⟩
  · have h2 : (r != 0) = true := by simpa using h1
    clear h
    go_enter Try.func13, Try.ntmps13
    go_wp2_with fail
    go_ret
    exact ⟨rfl, below1 _ (Nat.le_refl _)⟩

set_option maxHeartbeats 2000000 in
theorem rcheck4_ok (k : Int) (hk : 4 ≤ k) (hk2 : k ≤ 14) (w : World) :
    Calls Try.prog 13 #[.agg #[.int .u8 k, .int .i64 0, .int .i64 0, .int .u8 0, .bool false, .bool false]] w fun e w' => e = .returned (.int .i64 0) ∧ Below w.heap.size w w' := by
  go_enter Try.func13, Try.ntmps13
  go_wp2_with fail
  go_ret
  exact ⟨rfl, below1 _ (Nat.le_refl _)⟩

set_option maxHeartbeats 2000000 in
theorem rcheck_type (k r l c : Int) (i u : Bool) (hk : k < 1 ∨ 14 < k) (w : World) :
    Calls Try.prog 13 #[.agg #[.int .u8 k, .int .i64 r, .int .i64 l, .int .u8 c, .bool i, .bool u]] w fun e w' => e = .returned (.int .i64 3) ∧ Below w.heap.size w w' := by
  rcases hk with h1 | h1
  all_goals
    go_enter Try.func13, Try.ntmps13
    go_wp2_with fail
    go_ret
    exact ⟨rfl, below1 _ (Nat.le_refl _)⟩

end Go.Proofs.Ytjghleeobdbkgaa
