/- The chapter examples, the control pairs, and the list of codes piece by piece. -/
import Derived.Test.YtjghleeobdbkgaaRGet
import Derived.Test.YtjghleeobdbkgaaLaw
namespace Go.Proofs.Ytjghleeobdbkgaa
open Go.RowKit Pl
set_option linter.unusedVariables false
def ctl (one : Int) : Bool := decide (16 ≤ one) && decide (one ≤ 31)
set_option maxHeartbeats 400000 in
theorem control_any (one two : Int) (w : World) :
    Calls Try.prog 18 #[.int .u8 one, .int .u8 two] w fun e w' => e = .returned (.bool (ctl one)) ∧ w = w' := by
  by_cases h : 16 ≤ one
  · go_enter Try.func18, Try.ntmps18
    go_wp2
    go_ret
    exact ⟨ret_bool (by simp [ctl, h]), rfl⟩
  · have hd : decide (16 ≤ one) = false := by simpa using h
    go_enter Try.func18, Try.ntmps18
    go_wp2
    go_ret
    exact ⟨ret_bool (by simp [ctl, hd]), rfl⟩
set_option maxHeartbeats 400000 in
theorem rcontrol_any (one two : Int) (w : World) :
    Calls Try.prog 19 #[.int .u8 one, .int .u8 two] w fun e w' => e = .returned (.bool (ctl one)) ∧ w = w' := by
  by_cases h : 16 ≤ one
  · go_enter Try.func19, Try.ntmps19
    go_wp2
    go_ret
    exact ⟨ret_bool (by simp [ctl, h]), rfl⟩
  · have hd : decide (16 ≤ one) = false := by simpa using h
    go_enter Try.func19, Try.ntmps19
    go_wp2
    go_ret
    exact ⟨ret_bool (by simp [ctl, hd]), rfl⟩
set_option maxHeartbeats 2000000 in
theorem awake_any (w : World) : Calls Try.prog 9 #[] w fun e w' => e = .returned (.bool true) ∧ Below w.heap.size w w' := by
  have p1 : Pl.put (1, 14, 4, 0, false, false) = (20, 114, 0) := by decide
  have g1 : Pl.get 20 112 = some (1, 14, 0, 0, false, false) := by decide +kernel
  have g2 : Pl.get 16 96 = none := by decide +kernel
  have P1 := Lib.hid p1; have G1 := Lib.hid g1; have G2 := Lib.hid g2
  clear p1 g1 g2
  go_enter Try.func9, Try.ntmps9
  go_wp2_with fail
  refine (put_any 1 14 4 0 false false (by decide) _).mono ?_
  rintro e w1 ⟨rfl, hb1⟩
  rw [putV_eq P1.out]
  go_wp2_with fail
  refine (get_any 20 112 (by decide) (by decide) (by decide) _).mono ?_
  rintro e w2 ⟨rfl, hb2⟩
  rw [G1.out, getV_some]
  go_upto_region 3 with fail
  obtain ⟨W2, hW2, hb3⟩ := newWorld w2 (.cells #[.int .u8 1, .int .i64 14, .int .i64 0, .int .u8 0, .bool false, .bool false] 26)
  rw [← hW2]
  have Q2 := Row6.new w2 (.int .u8 1) (.int .i64 14) (.int .i64 0) (.int .u8 0) (.bool false) (.bool false) 26
  rw [← hW2] at Q2
  have hB2 := below_then (below_then hb1 hb2) hb3
  clear hW2 hb1 hb2 hb3
  go_wp2_with fail
  refine (get_any 16 96 (by decide) (by decide) (by decide) _).mono ?_
  rintro e w3 ⟨rfl, hb3⟩
  rw [G2.out, getV_none]
  have Q3 := Q2.step hb3
  have hB3 := below_then hB2 hb3
  clear hB2 hb3 Q2
  go_upto_region 4 with fail
  obtain ⟨W4, hW4, hb4⟩ := newWorld w3 (.cells #[.int .u8 0, .int .i64 0, .int .i64 0, .int .u8 0, .bool false, .bool false] 26)
  rw [← hW4]
  have Q4 := Q3.step hb4
  have hB4 := below_then hB3 hb4
  clear hW4 hB3 hb4 Q3
  obtain ⟨q0, q1, q2, q3, q4, q5, qf, ql⟩ := Q4.out
  go_wp2
  go_ret
  exact ⟨rfl, hB4⟩
def K1 (a : Nat) : List Cd := (List.range a).flatMap fun (o : Nat) => (List.range 96).flatMap fun (t : Nat) => keep ((o : Int) + 16) ((t : Int) + 32)
def K2 (a b : Nat) : List Cd := K1 a ++ (List.range b).flatMap fun (t : Nat) => keep ((a : Int) + 16) ((t : Int) + 32)
theorem K2_zero (a : Nat) : K2 a 0 = K1 a := by simp [K2]
theorem K2_succ (a b : Nat) : K2 a (b + 1) = K2 a b ++ keep ((a : Int) + 16) ((b : Int) + 32) := by simp [K2, List.range_succ]
theorem K1_succ (a : Nat) : K1 (a + 1) = K2 a 96 := by simp [K1, K2, List.range_succ]
theorem keep_le (one two : Int) : (keep one two).length ≤ 1 := by
  unfold keep
  split
  · split <;> simp
  · simp
theorem K1_le (a : Nat) : (K1 a).length ≤ 96 * a := by
  induction a with
  | zero => simp [K1]
  | succ a ih =>
    rw [K1_succ]
    have h : ∀ b, (K2 a b).length ≤ 96 * a + b := by
      intro b
      induction b with
      | zero => rw [K2_zero]; omega
      | succ b ih2 => rw [K2_succ, List.length_append]; have := keep_le ((a : Int) + 16) ((b : Int) + 32); omega
    have := h 96; omega
theorem K2_le (a b : Nat) : (K2 a b).length ≤ 96 * a + b := by
  induction b with
  | zero => rw [K2_zero]; have := K1_le a; omega
  | succ b ih2 => rw [K2_succ, List.length_append]; have := keep_le ((a : Int) + 16) ((b : Int) + 32); omega
theorem K_len : (K1 8).length = 480 := by decide +kernel
theorem get_col {one two k r l c : Int} {i u : Bool} (h : Pl.get one two = some (k, r, l, c, i, u)) (h2 : 0 ≤ two) (h3 : two ≤ 255) : 0 ≤ c := by
  unfold Pl.get at h
  have hs : ∀ n : Int, 0 ≤ n → 0 ≤ (std n).1 := by
    intro n hn; unfold std; split <;> simp <;> omega
  have hp : ∀ l : List Int, (∀ r ∈ l, 0 ≤ r ∧ r < 15) → ∀ x, preL one two l = some x → 0 ≤ x.2.2.2.1 := by
    intro l
    induction l with
    | nil => intro _ x hx; cases hx
    | cons r l ih =>
      intro hl x hx
      unfold preL at hx
      cases hh : hit one two r
      · rw [hh] at hx; exact ih (fun y hy => hl y (by simp [hy])) x (by simpa using hx)
      · rw [hh] at hx
        simp only [if_true, Option.some.injEq] at hx
        subst hx
        simp only [hit, Bool.and_eq_true, decide_eq_true_eq] at hh
        unfold pre1
        split
        · exact hs _ (by omega)
        · simp
  have hr : ∀ r ∈ rows15, 0 ≤ r ∧ r < 15 := by decide
  cases hq : preL one two rows15 with
  | some x =>
    rw [hq] at h
    simp only [Option.some.injEq] at h
    subst h
    exact hp rows15 hr _ hq
  | none =>
    rw [hq] at h
    simp only [] at h
    by_cases a1 : one = 17 ∧ 32 ≤ two ∧ two ≤ 47
    · rw [if_pos a1] at h
      simp only [Option.some.injEq, Prod.mk.injEq] at h
      have := hs (two - 32) (by omega)
      obtain ⟨_, _, _, h4⟩ := h
      rw [h4] at this; exact this
    · rw [if_neg a1] at h
      by_cases a2 : one = 23 ∧ 33 ≤ two ∧ two ≤ 35
      · rw [if_pos a2] at h
        simp only [Option.some.injEq, Prod.mk.injEq] at h
        omega
      · rw [if_neg a2] at h
        by_cases a3 : one = 20
        · rw [if_pos a3] at h
          have hz : ∀ l : List Int, ∀ x, sndL two l = some x → x.2.2.2.1 = 0 := by
            intro l
            induction l with
            | nil => intro x hx; cases hx
            | cons k l ih =>
              intro x hx
              unfold sndL at hx
              split at hx
              · simp only [Option.some.injEq] at hx; subst hx; rfl
              · exact ih x hx
          have := hz _ _ h
          simp only [] at this; omega
        · rw [if_neg a3] at h; cases h
end Go.Proofs.Ytjghleeobdbkgaa
