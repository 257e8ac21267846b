/- Both Checks at every code: one function of numbers. -/
import Derived.Test.YtjghleeobdbkgaaCheckA
import Derived.Test.YtjghleeobdbkgaaCheckB
import Derived.Test.YtjghleeobdbkgaaRCheckA
import Derived.Test.YtjghleeobdbkgaaRCheckB
namespace Go.Proofs.Ytjghleeobdbkgaa
open Go.RowKit Pl
theorem check_any (k r l c : Int) (i u : Bool) (w : World) :
    Calls Try.prog 12 #[.agg #[.int .u8 k, .int .i64 r, .int .i64 l, .int .u8 c, .bool i, .bool u]] w fun e w' => e = .returned (.int .i64 (chk k r l c i u)) ∧ Below w.heap.size w w' := by
  unfold chk
  by_cases k1 : k = 1
  · subst k1
    rw [if_pos rfl]
    by_cases h : r < 0 ∨ 15 ≤ r ∨ l < 0 ∨ 28 < l ∨ l % 4 ≠ 0
    · rw [if_pos h]; exact check1_bad r l c i u h w
    · rw [if_neg h]
      cases hs : sty c i
      · rw [if_pos (Or.inl rfl)]; exact check1_sty r l c i u (by omega) (by omega) (by omega) (by omega) (by omega) hs w
      · by_cases hp : l ≠ 0 ∧ pln c i = false
        · rw [if_pos (Or.inr hp)]; exact check1_pln r l c i u (by omega) (by omega) (by omega) (by omega) (by omega) hs hp.2 w
        · rw [if_neg (by simp only [Bool.true_eq_false, false_or]; exact hp)]
          refine check1_ok r l c i u (by omega) (by omega) (by omega) (by omega) (by omega) hs ?_ w
          by_cases h0 : l = 0
          · exact Or.inl h0
          · right; cases h2 : pln c i
            · exact absurd ⟨h0, h2⟩ hp
            · rfl
  rw [if_neg k1]
  by_cases k2 : k = 2
  · subst k2
    rw [if_pos rfl]
    by_cases h : r ≠ 0 ∨ l ≠ 0
    · rw [if_pos h]; exact check2_bad r l c i u h w
    · obtain ⟨rfl, rfl⟩ : r = 0 ∧ l = 0 := by omega
      rw [if_neg h]
      cases hs : sty c i
      · rw [if_pos rfl]; exact check2_sty c i u hs w
      · rw [if_neg (by simp)]; exact check2_ok c i u hs w
  rw [if_neg k2]
  by_cases k3 : k = 3
  · subst k3
    rw [if_pos rfl]
    by_cases h : r ≠ 0 ∨ c ≠ 0 ∨ i = true ∨ u = true
    · rw [if_pos h]; exact check3_bad r l c i u h w
    · rw [if_neg h]
      obtain ⟨rfl, rfl, rfl, rfl⟩ : r = 0 ∧ c = 0 ∧ i = false ∧ u = false := by
        refine ⟨?_, ?_, ?_, ?_⟩
        · omega
        · omega
        · cases i <;> simp_all
        · cases u <;> simp_all
      by_cases h2 : l < 1 ∨ 3 < l
      · rw [if_pos h2]; exact check3_rng l h2 w
      · rw [if_neg h2]; exact check3_ok l (by omega) (by omega) w
  rw [if_neg k3]
  by_cases k4 : 4 ≤ k ∧ k ≤ 14
  · rw [if_pos k4]
    by_cases h : r ≠ 0 ∨ l ≠ 0 ∨ c ≠ 0 ∨ i = true ∨ u = true
    · rw [if_pos h]; exact check4_bad k r l c i u k4.1 k4.2 h w
    · rw [if_neg h]
      obtain ⟨rfl, rfl, rfl, rfl, rfl⟩ : r = 0 ∧ l = 0 ∧ c = 0 ∧ i = false ∧ u = false := by
        refine ⟨?_, ?_, ?_, ?_, ?_⟩
        · omega
        · omega
        · omega
        · cases i <;> simp_all
        · cases u <;> simp_all
      exact check4_ok k k4.1 k4.2 w
  rw [if_neg k4]
  exact check_type k r l c i u (by omega) w
theorem rcheck_any (k r l c : Int) (i u : Bool) (w : World) :
    Calls Try.prog 13 #[.agg #[.int .u8 k, .int .i64 r, .int .i64 l, .int .u8 c, .bool i, .bool u]] w fun e w' => e = .returned (.int .i64 (chk k r l c i u)) ∧ Below w.heap.size w w' := by
  unfold chk
  by_cases k1 : k = 1
  · subst k1
    rw [if_pos rfl]
    by_cases h : r < 0 ∨ 15 ≤ r ∨ l < 0 ∨ 28 < l ∨ l % 4 ≠ 0
    · rw [if_pos h]; exact rcheck1_bad r l c i u h w
    · rw [if_neg h]
      cases hs : sty c i
      · rw [if_pos (Or.inl rfl)]; exact rcheck1_sty r l c i u (by omega) (by omega) (by omega) (by omega) (by omega) hs w
      · by_cases hp : l ≠ 0 ∧ pln c i = false
        · rw [if_pos (Or.inr hp)]; exact rcheck1_pln r l c i u (by omega) (by omega) (by omega) (by omega) (by omega) hs hp.2 w
        · rw [if_neg (by simp only [Bool.true_eq_false, false_or]; exact hp)]
          refine rcheck1_ok r l c i u (by omega) (by omega) (by omega) (by omega) (by omega) hs ?_ w
          by_cases h0 : l = 0
          · exact Or.inl h0
          · right; cases h2 : pln c i
            · exact absurd ⟨h0, h2⟩ hp
            · rfl
  rw [if_neg k1]
  by_cases k2 : k = 2
  · subst k2
    rw [if_pos rfl]
    by_cases h : r ≠ 0 ∨ l ≠ 0
    · rw [if_pos h]; exact rcheck2_bad r l c i u h w
    · obtain ⟨rfl, rfl⟩ : r = 0 ∧ l = 0 := by omega
      rw [if_neg h]
      cases hs : sty c i
      · rw [if_pos rfl]; exact rcheck2_sty c i u hs w
      · rw [if_neg (by simp)]; exact rcheck2_ok c i u hs w
  rw [if_neg k2]
  by_cases k3 : k = 3
  · subst k3
    rw [if_pos rfl]
    by_cases h : r ≠ 0 ∨ c ≠ 0 ∨ i = true ∨ u = true
    · rw [if_pos h]; exact rcheck3_bad r l c i u h w
    · rw [if_neg h]
      obtain ⟨rfl, rfl, rfl, rfl⟩ : r = 0 ∧ c = 0 ∧ i = false ∧ u = false := by
        refine ⟨?_, ?_, ?_, ?_⟩
        · omega
        · omega
        · cases i <;> simp_all
        · cases u <;> simp_all
      by_cases h2 : l < 1 ∨ 3 < l
      · rw [if_pos h2]; exact rcheck3_rng l h2 w
      · rw [if_neg h2]; exact rcheck3_ok l (by omega) (by omega) w
  rw [if_neg k3]
  by_cases k4 : 4 ≤ k ∧ k ≤ 14
  · rw [if_pos k4]
    by_cases h : r ≠ 0 ∨ l ≠ 0 ∨ c ≠ 0 ∨ i = true ∨ u = true
    · rw [if_pos h]; exact rcheck4_bad k r l c i u k4.1 k4.2 h w
    · rw [if_neg h]
      obtain ⟨rfl, rfl, rfl, rfl, rfl⟩ : r = 0 ∧ l = 0 ∧ c = 0 ∧ i = false ∧ u = false := by
        refine ⟨?_, ?_, ?_, ?_, ?_⟩
        · omega
        · omega
        · omega
        · cases i <;> simp_all
        · cases u <;> simp_all
      exact rcheck4_ok k k4.1 k4.2 w
  rw [if_neg k4]
  exact rcheck_type k r l c i u (by omega) w
end Go.Proofs.Ytjghleeobdbkgaa
