/- The reference's Check, walked: kinds 1 and 2. -/
import Derived.Test.YtjghleeobdbkgaaSmall
namespace Go.Proofs.Ytjghleeobdbkgaa
open Go.RowKit Pl
set_option maxHeartbeats 2000000 in
theorem rcheck1_bad (r l c : Int) (i u : Bool) (h : r < 0 ∨ 15 ≤ r ∨ l < 0 ∨ 28 < l ∨ l % 4 ≠ 0) (w : World) :
    Calls Try.prog 13 #[.agg #[.int .u8 1, .int .i64 r, .int .i64 l, .int .u8 c, .bool i, .bool u]] w fun e w' => e = .returned (.int .i64 2) ∧ Below w.heap.size w w' := by
  have H : r < 0 ∨ (0 ≤ r ∧ 15 ≤ r) ∨ (0 ≤ r ∧ r < 15 ∧ l < 0) ∨ (0 ≤ r ∧ r < 15 ∧ 0 ≤ l ∧ 28 < l) ∨ (0 ≤ r ∧ r < 15 ∧ 0 ≤ l ∧ l ≤ 28 ∧ l % 4 ≠ 0) := by omega
  clear h
  rcases H with h1 | ⟨h1, h2⟩ | ⟨h1, h2, h3⟩ | ⟨h1, h2, h3, h4⟩ | ⟨h1, h2, h3, h4, h5⟩
  all_goals (try (have h5' : (l % 4 != 0) = true := by simp [h5]))
  all_goals
    go_enter Try.func13, Try.ntmps13
    go_wp2_with fail
    go_ret
    exact ⟨rfl, below1 _ (Nat.le_refl _)⟩

set_option maxHeartbeats 2000000 in
theorem rcheck1_sty (r l c : Int) (i u : Bool) (h1 : 0 ≤ r) (h2 : r < 15) (h3 : 0 ≤ l) (h4 : l ≤ 28) (h5 : l % 4 = 0) (hs : sty c i = false) (w : World) :
    Calls Try.prog 13 #[.agg #[.int .u8 1, .int .i64 r, .int .i64 l, .int .u8 c, .bool i, .bool u]] w fun e w' => e = .returned (.int .i64 12) ∧ Below w.heap.size w w' := by
  have H := Lib.hid hs; clear hs
  have H5 := Lib.hid h5; clear h5
  have h5' : (l % 4 != 0) = false := by simp [H5.out]
  go_enter Try.func13, Try.ntmps13
  go_wp2_with fail
  refine (rstyle_any _ _ _ _).mono ?_
  rintro e w1 ⟨rfl, hb⟩
  rw [H.out]
  go_wp2
  go_ret
  exact ⟨rfl, below_alloc _ hb⟩
set_option maxHeartbeats 2000000 in
theorem rcheck1_pln (r l c : Int) (i u : Bool) (h1 : 0 ≤ r) (h2 : r < 15) (h3 : 0 < l) (h4 : l ≤ 28) (h5 : l % 4 = 0) (hs : sty c i = true) (hp : pln c i = false) (w : World) :
    Calls Try.prog 13 #[.agg #[.int .u8 1, .int .i64 r, .int .i64 l, .int .u8 c, .bool i, .bool u]] w fun e w' => e = .returned (.int .i64 12) ∧ Below w.heap.size w w' := by
  have H := Lib.hid hs; clear hs
  have H5 := Lib.hid h5; clear h5
  have h5' : (l % 4 != 0) = false := by simp [H5.out]
  have h6 : (l != 0) = true := by simp; omega
  by_cases h7 : c = 0
  · subst h7
    have h8 : i = true := by simpa [pln] using hp
    subst h8
    clear hp
    go_enter Try.func13, Try.ntmps13
    go_wp2_with fail
    refine (rstyle_any _ _ _ _).mono ?_
    rintro e w1 ⟨rfl, hb⟩
    rw [H.out]
    obtain ⟨hc, hf⟩ := bcell hb
    go_wp2_with fail
    go_ret
    exact ⟨rfl, below_alloc _ hb⟩
  · clear hp
    have h8 : (c != 0) = true := by simpa using h7
    go_enter Try.func13, Try.ntmps13
    go_wp2_with fail
    refine (rstyle_any _ _ _ _).mono ?_
    rintro e w1 ⟨rfl, hb⟩
    rw [H.out]
    obtain ⟨hc, hf⟩ := bcell hb
    go_wp2_with fail
    go_ret
    exact ⟨rfl, below_alloc _ hb⟩
set_option maxHeartbeats 2000000 in
theorem rcheck1_ok (r l c : Int) (i u : Bool) (h1 : 0 ≤ r) (h2 : r < 15) (h3 : 0 ≤ l) (h4 : l ≤ 28) (h5 : l % 4 = 0) (hs : sty c i = true) (hp : l = 0 ∨ pln c i = true) (w : World) :
    Calls Try.prog 13 #[.agg #[.int .u8 1, .int .i64 r, .int .i64 l, .int .u8 c, .bool i, .bool u]] w fun e w' => e = .returned (.int .i64 0) ∧ Below w.heap.size w w' := by
  have H := Lib.hid hs; clear hs
  have H5 := Lib.hid h5; clear h5
  have h5' : (l % 4 != 0) = false := by simp [H5.out]
  by_cases h0 : l = 0
  · subst h0
    clear hp
    go_enter Try.func13, Try.ntmps13
    go_wp2_with fail
    refine (rstyle_any _ _ _ _).mono ?_
    rintro e w1 ⟨rfl, hb⟩
    rw [H.out]
    obtain ⟨hc, hf⟩ := bcell hb
    go_wp2_with fail
    go_ret
    exact ⟨rfl, below_alloc _ hb⟩
  · have hp' : pln c i = true := by simpa [h0] using hp
    clear hp
    obtain ⟨rfl, rfl⟩ : c = 0 ∧ i = false := by simpa [pln] using hp'
    clear hp'
    have h6 : (l != 0) = true := by simp; omega
    go_enter Try.func13, Try.ntmps13
    go_wp2_with fail
    refine (rstyle_any _ _ _ _).mono ?_
    rintro e w1 ⟨rfl, hb⟩
    rw [H.out]
    obtain ⟨hc, hf⟩ := bcell hb
    go_wp2_with fail
    go_ret
    exact ⟨rfl, below_alloc _ hb⟩
set_option maxHeartbeats 2000000 in
theorem rcheck2_bad (r l c : Int) (i u : Bool) (h : r ≠ 0 ∨ l ≠ 0) (w : World) :
    Calls Try.prog 13 #[.agg #[.int .u8 2, .int .i64 r, .int .i64 l, .int .u8 c, .bool i, .bool u]] w fun e w' => e = .returned (.int .i64 1) ∧ Below w.heap.size w w' := by
  by_cases h1 : r = 0
  · subst h1
    have h2 : (l != 0) = true := by simpa using h
    clear h
    go_enter Try.func13, Try.ntmps13
    go_wp2_with fail
    go_ret
    exact ⟨rfl, below1 _ (Nat.le_refl _)⟩
  · have h2 : (r != 0) = true := by simpa using h1
    clear h
    go_enter Try.func13, Try.ntmps13
    go_wp2_with fail
    go_ret
    exact ⟨rfl, below1 _ (Nat.le_refl _)⟩

set_option maxHeartbeats 2000000 in
theorem rcheck2_sty (c : Int) (i u : Bool) (hs : sty c i = false) (w : World) :
    Calls Try.prog 13 #[.agg #[.int .u8 2, .int .i64 0, .int .i64 0, .int .u8 c, .bool i, .bool u]] w fun e w' => e = .returned (.int .i64 12) ∧ Below w.heap.size w w' := by
  have H := Lib.hid hs; clear hs
  go_enter Try.func13, Try.ntmps13
  go_wp2_with fail
  refine (rstyle_any _ _ _ _).mono ?_
  rintro e w1 ⟨rfl, hb⟩
  rw [H.out]
  go_wp2_with fail
  go_ret
  exact ⟨rfl, below_alloc _ hb⟩

set_option maxHeartbeats 2000000 in
theorem rcheck2_ok (c : Int) (i u : Bool) (hs : sty c i = true) (w : World) :
    Calls Try.prog 13 #[.agg #[.int .u8 2, .int .i64 0, .int .i64 0, .int .u8 c, .bool i, .bool u]] w fun e w' => e = .returned (.int .i64 0) ∧ Below w.heap.size w w' := by
  have H := Lib.hid hs; clear hs
  go_enter Try.func13, Try.ntmps13
  go_wp2_with fail
  refine (rstyle_any _ _ _ _).mono ?_
  rintro e w1 ⟨rfl, hb⟩
  rw [H.out]
  go_wp2_with fail
  go_ret
  exact ⟨rfl, below_alloc _ hb⟩

end Go.Proofs.Ytjghleeobdbkgaa
