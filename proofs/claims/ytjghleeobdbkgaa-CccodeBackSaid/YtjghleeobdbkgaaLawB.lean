/- The plain law: a code is read back from its pair, and a pair that is read is that of its code, but for the second bytes that are named. -/
import Derived.Test.YtjghleeobdbkgaaLaw
import Derived.Test.YtjghleeobdbkgaaPut
namespace Go.Proofs.Ytjghleeobdbkgaa.Pl
set_option linter.unusedVariables false
/-- What is said of a pair that is read. -/
def fits (one two : Int) : Bool :=
  match Pl.get one two with
  | none => true
  | some x => decide ((Pl.put x).2.2 = 0 ∧ (Pl.put x).1 = one ∧ ((Pl.put x).2.1 = two ∨ (x.1 = 1 ∧ x.2.2.1 = 0 ∧ (Pl.put x).2.1 + 16 = two)))
def fitsN (one : Int) : Nat → Bool
  | 0 => true
  | n + 1 => fits one (n : Int) && fitsN one n
theorem fits_at {one : Int} : ∀ {n : Nat}, fitsN one n = true → ∀ t : Nat, t < n → fits one (t : Int) = true := by
  intro n
  induction n with
  | zero => intro _ t h; omega
  | succ n ih =>
    intro h t ht
    simp only [fitsN, Bool.and_eq_true] at h
    by_cases e : t = n
    · rw [e]; exact h.1
    · exact ih h.2 t (by omega)
set_option maxRecDepth 100000 in
theorem fits_all : fitsN 16 256 = true ∧ fitsN 17 256 = true ∧ fitsN 18 256 = true ∧ fitsN 19 256 = true ∧ fitsN 20 256 = true ∧ fitsN 21 256 = true ∧ fitsN 22 256 = true ∧ fitsN 23 256 = true := by decide +kernel
theorem back2 (one two : Int) (h0 : 0 ≤ two) (h1 : two ≤ 255) : fits one two = true := by
  by_cases h : one < 16 ∨ 23 < one
  · unfold fits; rw [get_out h]
  · obtain ⟨t, rfl⟩ := Int.eq_ofNat_of_zero_le h0
    have ht : t < 256 := by omega
    obtain ⟨f0, f1, f2, f3, f4, f5, f6, f7⟩ := fits_all
    have : one = 16 ∨ one = 17 ∨ one = 18 ∨ one = 19 ∨ one = 20 ∨ one = 21 ∨ one = 22 ∨ one = 23 := by omega
    rcases this with rfl | rfl | rfl | rfl | rfl | rfl | rfl | rfl
    · exact fits_at f0 t ht
    · exact fits_at f1 t ht
    · exact fits_at f2 t ht
    · exact fits_at f3 t ht
    · exact fits_at f4 t ht
    · exact fits_at f5 t ht
    · exact fits_at f6 t ht
    · exact fits_at f7 t ht
theorem ev_back : ∀ x ∈ ev, Pl.get (Pl.put x).1 (Pl.put x).2.1 = some x ∧ 16 ≤ (Pl.put x).1 ∧ (Pl.put x).1 ≤ 31 := by
  have : (ev.all fun x => decide (Pl.get (Pl.put x).1 (Pl.put x).2.1 = some x ∧ 16 ≤ (Pl.put x).1 ∧ (Pl.put x).1 ≤ 31)) = true := by decide +kernel
  intro x hx
  exact of_decide_eq_true (List.all_eq_true.1 this x hx)
theorem mem_stys {c : Int} {i u : Bool} (hc : 0 ≤ c) (h : sty c i = true) : ((c, i, u) : St) ∈ stys := by
  cases i
  · have h6 : c ≤ 6 := by simpa [sty] using h
    have : c = 0 ∨ c = 1 ∨ c = 2 ∨ c = 3 ∨ c = 4 ∨ c = 5 ∨ c = 6 := by omega
    rcases this with rfl | rfl | rfl | rfl | rfl | rfl | rfl
    all_goals cases u <;> decide
  · have h6 : c = 0 := by simpa [sty] using h
    subst h6
    cases u <;> decide
theorem mem_ev {k r l c : Int} {i u : Bool} (hc : 0 ≤ c) (h : chk k r l c i u = 0) : ((k, r, l, c, i, u) : Cd) ∈ ev := by
  unfold ev
  by_cases k1 : k = 1
  · subst k1
    obtain ⟨h1, h2, h3, h4, h5, hs, hp⟩ := chk1 h
    refine List.mem_append_left _ (List.mem_append_left _ (List.mem_append_left _ (List.mem_flatMap.2 ⟨r, ?_, ?_⟩)))
    · rcases (show r = 0 ∨ r = 1 ∨ r = 2 ∨ r = 3 ∨ r = 4 ∨ r = 5 ∨ r = 6 ∨ r = 7 ∨ r = 8 ∨ r = 9 ∨ r = 10 ∨ r = 11 ∨ r = 12 ∨ r = 13 ∨ r = 14 by omega) with rfl | rfl | rfl | rfl | rfl | rfl | rfl | rfl | rfl | rfl | rfl | rfl | rfl | rfl | rfl
      all_goals decide
    · unfold evrow
      by_cases h0 : l = 0
      · subst h0
        exact List.mem_append_left _ (List.mem_map.2 ⟨(c, i, u), mem_stys hc hs, rfl⟩)
      · obtain ⟨rfl, rfl⟩ := hp.resolve_left h0
        refine List.mem_append_right _ (List.mem_flatMap.2 ⟨l, ?_, ?_⟩)
        · rcases (show l = 4 ∨ l = 8 ∨ l = 12 ∨ l = 16 ∨ l = 20 ∨ l = 24 ∨ l = 28 by omega) with rfl | rfl | rfl | rfl | rfl | rfl | rfl
          all_goals decide
        · cases u <;> simp
  by_cases k2 : k = 2
  · subst k2
    obtain ⟨rfl, rfl, hs⟩ := chk2 h
    exact List.mem_append_left _ (List.mem_append_left _ (List.mem_append_right _ (List.mem_map.2 ⟨(c, i, u), mem_stys hc hs, rfl⟩)))
  by_cases k3 : k = 3
  · subst k3
    obtain ⟨rfl, h1, h2, rfl, rfl, rfl⟩ := chk3 h
    refine List.mem_append_left _ (List.mem_append_right _ (List.mem_map.2 ⟨l, ?_, rfl⟩))
    rcases (show l = 1 ∨ l = 2 ∨ l = 3 by omega) with rfl | rfl | rfl
    all_goals decide
  obtain ⟨h1, h2, rfl, rfl, rfl, rfl, rfl⟩ := chk4 h k1 k2 k3
  refine List.mem_append_right _ (List.mem_map.2 ⟨k, ?_, rfl⟩)
  rcases (show k = 4 ∨ k = 5 ∨ k = 6 ∨ k = 7 ∨ k = 8 ∨ k = 9 ∨ k = 10 ∨ k = 11 ∨ k = 12 ∨ k = 13 ∨ k = 14 by omega) with rfl | rfl | rfl | rfl | rfl | rfl | rfl | rfl | rfl | rfl | rfl
  all_goals decide
theorem back1 {k r l c x y : Int} {i u : Bool} (hc : 0 ≤ c) (h : Pl.put (k, r, l, c, i, u) = (x, y, 0)) : Pl.get x y = some (k, r, l, c, i, u) ∧ 16 ≤ x ∧ x ≤ 31 := by
  have h0 : chk k r l c i u = 0 := by
    by_cases h0 : chk k r l c i u = 0
    · exact h0
    · simp only [Pl.put, if_neg h0, Prod.mk.injEq] at h; exact h.2.2
  have := ev_back _ (mem_ev hc h0)
  rw [h] at this
  exact this
theorem put_err (k r l c : Int) (i u : Bool) : (Pl.put (k, r, l, c, i, u)).2.2 = chk k r l c i u := by
  by_cases h0 : chk k r l c i u = 0
  · simp [Pl.put, h0]
  · simp [Pl.put, h0]
end Go.Proofs.Ytjghleeobdbkgaa.Pl
