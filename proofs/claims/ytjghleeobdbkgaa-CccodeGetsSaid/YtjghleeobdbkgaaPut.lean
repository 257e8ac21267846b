/- The program's Put, walked case by case. -/
import Derived.Test.YtjghleeobdbkgaaChecks
import Derived.Test.YtjghleeobdbkgaaRowsOf
namespace Go.Proofs.Ytjghleeobdbkgaa
open Go.RowKit Pl
theorem chk1 {r l c : Int} {i u : Bool} (h : chk 1 r l c i u = 0) : 0 ≤ r ∧ r < 15 ∧ 0 ≤ l ∧ l ≤ 28 ∧ l % 4 = 0 ∧ sty c i = true ∧ (l = 0 ∨ (c = 0 ∧ i = false)) := by
  unfold chk at h
  rw [if_pos rfl] at h
  by_cases h1 : r < 0 ∨ 15 ≤ r ∨ l < 0 ∨ 28 < l ∨ l % 4 ≠ 0
  · rw [if_pos h1] at h; cases h
  · rw [if_neg h1] at h
    by_cases h2 : sty c i = false ∨ (l ≠ 0 ∧ pln c i = false)
    · rw [if_pos h2] at h; cases h
    · refine ⟨by omega, by omega, by omega, by omega, by omega, ?_, ?_⟩
      · cases hs : sty c i
        · exact absurd (Or.inl hs) h2
        · rfl
      · by_cases h0 : l = 0
        · exact Or.inl h0
        · right
          cases hp : pln c i
          · exact absurd (Or.inr ⟨h0, hp⟩) h2
          · simpa [pln] using hp
theorem chk2 {r l c : Int} {i u : Bool} (h : chk 2 r l c i u = 0) : r = 0 ∧ l = 0 ∧ sty c i = true := by
  unfold chk at h
  rw [if_neg (by decide), if_pos rfl] at h
  by_cases h1 : r ≠ 0 ∨ l ≠ 0
  · rw [if_pos h1] at h; cases h
  · rw [if_neg h1] at h
    refine ⟨by omega, by omega, ?_⟩
    cases hs : sty c i
    · rw [if_pos hs] at h; cases h
    · rfl
theorem chk3 {r l c : Int} {i u : Bool} (h : chk 3 r l c i u = 0) : r = 0 ∧ 1 ≤ l ∧ l ≤ 3 ∧ c = 0 ∧ i = false ∧ u = false := by
  unfold chk at h
  rw [if_neg (by decide), if_neg (by decide), if_pos rfl] at h
  by_cases h1 : r ≠ 0 ∨ c ≠ 0 ∨ i = true ∨ u = true
  · rw [if_pos h1] at h; cases h
  · rw [if_neg h1] at h
    by_cases h2 : l < 1 ∨ 3 < l
    · rw [if_pos h2] at h; cases h
    · refine ⟨by omega, by omega, by omega, by omega, ?_, ?_⟩
      · cases i <;> simp_all
      · cases u <;> simp_all
theorem chk4 {k r l c : Int} {i u : Bool} (h : chk k r l c i u = 0) (k1 : k ≠ 1) (k2 : k ≠ 2) (k3 : k ≠ 3) : 4 ≤ k ∧ k ≤ 14 ∧ r = 0 ∧ l = 0 ∧ c = 0 ∧ i = false ∧ u = false := by
  unfold chk at h
  rw [if_neg k1, if_neg k2, if_neg k3] at h
  by_cases h4 : 4 ≤ k ∧ k ≤ 14
  · rw [if_pos h4] at h
    by_cases h1 : r ≠ 0 ∨ l ≠ 0 ∨ c ≠ 0 ∨ i = true ∨ u = true
    · rw [if_pos h1] at h; cases h
    · refine ⟨h4.1, h4.2, by omega, by omega, by omega, ?_, ?_⟩
      · cases i <;> simp_all
      · cases u <;> simp_all
  · rw [if_neg h4] at h; cases h
theorem num_bd {c : Int} {i u : Bool} (hc : 0 ≤ c) (h : sty c i = true) : 0 ≤ num c i u ∧ num c i u ≤ 15 := by
  have := fl_bd u
  cases i
  · have h6 : c ≤ 6 := by simpa [sty] using h
    simp only [num]; rw [if_neg (by simp)]; omega
  · simp only [num, if_true]; omega
theorem row_bd {r : Int} (h1 : 0 ≤ r) (h2 : r < 15) : 16 ≤ fst1 r ∧ fst1 r ≤ 23 ∧ 64 ≤ ofs r ∧ ofs r ≤ 96 := by
  rcases row_cases h1 h2 with rfl | rfl | rfl | rfl | rfl | rfl | rfl | rfl | rfl | rfl | rfl | rfl | rfl | rfl | rfl
  all_goals decide

set_option maxHeartbeats 2000000 in
theorem put_bad (k r l c x : Int) (i u : Bool) (h : chk k r l c i u = x) (hx : x ≠ 0) (w : World) :
    Calls Try.prog 14 #[.agg #[.int .u8 k, .int .i64 r, .int .i64 l, .int .u8 c, .bool i, .bool u]] w fun e w' => e = .returned (.tuple #[.int .u8 0, .int .u8 0, .int .i64 x]) ∧ Below w.heap.size w w' := by
  have H := Lib.hid h; clear h
  have hx' : (x != 0) = true := by simpa using hx
  go_enter Try.func14, Try.ntmps14
  go_wp2_with fail
  refine (check_any _ _ _ _ _ _ _).mono ?_
  rintro e w1 ⟨rfl, hb⟩
  rw [H.out]
  go_wp2
  go_ret3
  exact ⟨rfl, below_alloc _ hb⟩
set_option maxHeartbeats 2000000 in
theorem put_pre0 (r c : Int) (i u : Bool) (hc : 0 ≤ c) (h1 : 0 ≤ r) (h2 : r < 15) (hs : sty c i = true) (h : chk 1 r 0 c i u = 0) (w : World) :
    Calls Try.prog 14 #[.agg #[.int .u8 1, .int .i64 r, .int .i64 0, .int .u8 c, .bool i, .bool u]] w fun e w' => e = .returned (.tuple #[.int .u8 (fst1 r), .int .u8 (ofs r + num c i u), .int .i64 0]) ∧ Below w.heap.size w w' := by
  have H := Lib.hid h; clear h
  have Hs := Lib.hid hs; clear hs
  have hr := row_bd h1 h2
  have hn := num_bd (u := u) hc Hs.out
  go_enter Try.func14, Try.ntmps14
  go_wp2_with fail
  refine (check_any _ _ _ _ _ _ _).mono ?_
  rintro e w1 ⟨rfl, hb⟩
  rw [H.out]
  obtain ⟨hcl, hfr⟩ := bcell hb
  go_wp2_with fail
  refine (first_any _ h1 h2 _).mono ?_
  rintro e w2 ⟨rfl, rfl⟩
  go_wp2_with fail
  refine (number_any _ _ _ hc Hs.out _).mono ?_
  rintro e w2 ⟨rfl, hb2⟩
  go_wp2
  go_ret3
  exact ⟨rfl, below_then (below_alloc _ hb) hb2⟩
set_option maxHeartbeats 2000000 in
theorem put_pre1 (r l : Int) (u : Bool) (h1 : 0 ≤ r) (h2 : r < 15) (hl : 0 < l) (hl2 : l ≤ 28) (h : chk 1 r l 0 false u = 0) (w : World) :
    Calls Try.prog 14 #[.agg #[.int .u8 1, .int .i64 r, .int .i64 l, .int .u8 0, .bool false, .bool u]] w fun e w' => e = .returned (.tuple #[.int .u8 (fst1 r), .int .u8 (ofs r + 16 + l / 2 + fl u), .int .i64 0]) ∧ Below w.heap.size w w' := by
  have H := Lib.hid h; clear h
  have hr := row_bd h1 h2
  have hn := fl_bd u
  have h6 : (l == 0) = false := by simp; omega
  go_enter Try.func14, Try.ntmps14
  go_wp2_with fail
  refine (check_any _ _ _ _ _ _ _).mono ?_
  rintro e w1 ⟨rfl, hb⟩
  rw [H.out]
  obtain ⟨hcl, hfr⟩ := bcell hb
  go_wp2_with fail
  refine (first_any _ h1 h2 _).mono ?_
  rintro e w2 ⟨rfl, rfl⟩
  go_wp2_with fail
  go_quiet ((go_at_call 25; exact quiet_same (flag_any _ _)))
  go_wp2
  go_ret3
  exact ⟨rfl, below_drewN _ (below_alloc _ hb)⟩
set_option maxHeartbeats 2000000 in
theorem put_mid (c : Int) (i u : Bool) (hc : 0 ≤ c) (hs : sty c i = true) (h : chk 2 0 0 c i u = 0) (w : World) :
    Calls Try.prog 14 #[.agg #[.int .u8 2, .int .i64 0, .int .i64 0, .int .u8 c, .bool i, .bool u]] w fun e w' => e = .returned (.tuple #[.int .u8 17, .int .u8 (32 + num c i u), .int .i64 0]) ∧ Below w.heap.size w w' := by
  have H := Lib.hid h; clear h
  have Hs := Lib.hid hs; clear hs
  have hn := num_bd (u := u) hc Hs.out
  go_enter Try.func14, Try.ntmps14
  go_wp2_with fail
  refine (check_any _ _ _ _ _ _ _).mono ?_
  rintro e w1 ⟨rfl, hb⟩
  rw [H.out]
  obtain ⟨hcl, hfr⟩ := bcell hb
  go_wp2_with fail
  refine (number_any _ _ _ hc Hs.out _).mono ?_
  rintro e w2 ⟨rfl, hb2⟩
  go_wp2
  go_ret3
  exact ⟨rfl, below_then (below_alloc _ hb) hb2⟩
set_option maxHeartbeats 2000000 in
theorem put_tab (l : Int) (h1 : 1 ≤ l) (h2 : l ≤ 3) (h : chk 3 0 l 0 false false = 0) (w : World) :
    Calls Try.prog 14 #[.agg #[.int .u8 3, .int .i64 0, .int .i64 l, .int .u8 0, .bool false, .bool false]] w fun e w' => e = .returned (.tuple #[.int .u8 23, .int .u8 (32 + l), .int .i64 0]) ∧ Below w.heap.size w w' := by
  have H := Lib.hid h; clear h
  go_enter Try.func14, Try.ntmps14
  go_wp2_with fail
  refine (check_any _ _ _ _ _ _ _).mono ?_
  rintro e w1 ⟨rfl, hb⟩
  rw [H.out]
  obtain ⟨hcl, hfr⟩ := bcell hb
  go_wp2_with fail
  go_quiet (fail)
  go_wp2
  go_ret3
  exact ⟨rfl, below_drewN _ (below_alloc _ hb)⟩
set_option maxHeartbeats 2000000 in
theorem put_oth (k : Int) (h1 : 4 ≤ k) (h2 : k ≤ 14) (h : chk k 0 0 0 false false = 0) (w : World) :
    Calls Try.prog 14 #[.agg #[.int .u8 k, .int .i64 0, .int .i64 0, .int .u8 0, .bool false, .bool false]] w fun e w' => e = .returned (.tuple #[.int .u8 20, .int .u8 (snd2 k), .int .i64 0]) ∧ Below w.heap.size w w' := by
  have H := Lib.hid h; clear h
  go_enter Try.func14, Try.ntmps14
  go_wp2_with fail
  refine (check_any _ _ _ _ _ _ _).mono ?_
  rintro e w1 ⟨rfl, hb⟩
  rw [H.out]
  obtain ⟨hcl, hfr⟩ := bcell hb
  go_wp2_with fail
  refine (second_any _ h1 h2 _).mono ?_
  rintro e w2 ⟨rfl, rfl⟩
  go_wp2
  go_ret3
  exact ⟨rfl, below_alloc _ hb⟩
end Go.Proofs.Ytjghleeobdbkgaa
