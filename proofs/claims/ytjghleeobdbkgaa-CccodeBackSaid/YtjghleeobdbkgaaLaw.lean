/- The plain law: both ways of reading a pair give the same code, at every pair of bytes. -/
import Derived.Test.YtjghleeobdbkgaaPlain
namespace Go.Proofs.Ytjghleeobdbkgaa.Pl
set_option linter.unusedVariables false
/-- Does every second byte below n agree? -/
def agree (one : Int) : Nat → Bool
  | 0 => true
  | n + 1 => decide (rget one (n : Int) = Pl.get one (n : Int)) && agree one n
theorem agree_at {one : Int} : ∀ {n : Nat}, agree one n = true → ∀ t : Nat, t < n → rget one (t : Int) = Pl.get one (t : Int) := by
  intro n
  induction n with
  | zero => intro _ t h; omega
  | succ n ih =>
    intro h t ht
    simp only [agree, Bool.and_eq_true, decide_eq_true_eq] at h
    by_cases e : t = n
    · rw [e]; exact h.1
    · exact ih h.2 t (by omega)
set_option maxRecDepth 100000 in
theorem agree16 : agree 16 256 = true := by decide +kernel
set_option maxRecDepth 100000 in
theorem agree17 : agree 17 256 = true := by decide +kernel
set_option maxRecDepth 100000 in
theorem agree18 : agree 18 256 = true := by decide +kernel
set_option maxRecDepth 100000 in
theorem agree19 : agree 19 256 = true := by decide +kernel
set_option maxRecDepth 100000 in
theorem agree20 : agree 20 256 = true := by decide +kernel
set_option maxRecDepth 100000 in
theorem agree21 : agree 21 256 = true := by decide +kernel
set_option maxRecDepth 100000 in
theorem agree22 : agree 22 256 = true := by decide +kernel
set_option maxRecDepth 100000 in
theorem agree23 : agree 23 256 = true := by decide +kernel

theorem rows_one : ∀ r ∈ rows15, 16 ≤ fst1 r ∧ fst1 r ≤ 23 := by decide
theorem ev_one : ∀ x ∈ ev, 16 ≤ (Pl.put x).1 ∧ (Pl.put x).1 ≤ 23 := by
  have : (ev.all fun x => decide (16 ≤ (Pl.put x).1 ∧ (Pl.put x).1 ≤ 23)) = true := by decide +kernel
  intro x hx
  simpa using List.all_eq_true.1 this x hx
theorem preL_out {one two : Int} (h : one < 16 ∨ 23 < one) : ∀ l : List Int, (∀ r ∈ l, 16 ≤ fst1 r ∧ fst1 r ≤ 23) → preL one two l = none := by
  intro l
  induction l with
  | nil => intro _; rfl
  | cons r l ih =>
    intro hl
    have hr := hl r (by simp)
    have : hit one two r = false := by
      have : (one == fst1 r) = false := by simp; omega
      simp [hit, this]
    simp only [preL, this]
    exact ih fun x hx => hl x (by simp [hx])
theorem rowL_out {one two : Int} (h : one < 16 ∨ 23 < one) : ∀ l : List Int, (∀ r ∈ l, 16 ≤ fst1 r ∧ fst1 r ≤ 23) → rowL one two l = none := by
  intro l
  induction l with
  | nil => intro _; rfl
  | cons r l ih =>
    intro hl
    have hr := hl r (by simp)
    unfold rowL
    rw [if_neg (by omega)]
    exact ih fun x hx => hl x (by simp [hx])
theorem evL_out {one two : Int} (h : one < 16 ∨ 23 < one) : ∀ l : List Cd, (∀ x ∈ l, 16 ≤ (Pl.put x).1 ∧ (Pl.put x).1 ≤ 23) → evL one two l = none := by
  intro l
  induction l with
  | nil => intro _; rfl
  | cons r l ih =>
    intro hl
    have hr := hl r (by simp)
    unfold evL
    rw [if_neg (by omega)]
    exact ih fun x hx => hl x (by simp [hx])
theorem get_out {one two : Int} (h : one < 16 ∨ 23 < one) : Pl.get one two = none := by
  unfold Pl.get
  rw [preL_out h rows15 rows_one]
  simp only []
  rw [if_neg (by omega), if_neg (by omega), if_neg (by omega)]
theorem rget_out {one two : Int} (h : one < 16 ∨ 23 < one) : rget one two = none := by
  unfold rget
  rw [rowL_out h rows15 rows_one]
  exact evL_out h ev ev_one
theorem get_eq (one two : Int) (h0 : 0 ≤ two) (h1 : two ≤ 255) : rget one two = Pl.get one two := by
  by_cases h : one < 16 ∨ 23 < one
  · rw [get_out h, rget_out h]
  · obtain ⟨t, rfl⟩ := Int.eq_ofNat_of_zero_le h0
    have ht : t < 256 := by omega
    have : one = 16 ∨ one = 17 ∨ one = 18 ∨ one = 19 ∨ one = 20 ∨ one = 21 ∨ one = 22 ∨ one = 23 := by omega
    rcases this with rfl | rfl | rfl | rfl | rfl | rfl | rfl | rfl
    · exact agree_at agree16 t ht
    · exact agree_at agree17 t ht
    · exact agree_at agree18 t ht
    · exact agree_at agree19 t ht
    · exact agree_at agree20 t ht
    · exact agree_at agree21 t ht
    · exact agree_at agree22 t ht
    · exact agree_at agree23 t ht
end Go.Proofs.Ytjghleeobdbkgaa.Pl
