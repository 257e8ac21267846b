/- The laws on checks, pairs and codes, walked. -/
import Derived.Test.YtjghleeobdbkgaaAwake
namespace Go.Proofs.Ytjghleeobdbkgaa
open Go.RowKit Pl
set_option linter.unusedVariables false
set_option maxHeartbeats 4000000 in
theorem law_checks (k r l c : Int) (i u : Bool) (w : World) :
    Calls Try.prog 3 #[.agg #[.int .u8 k, .int .i64 r, .int .i64 l, .int .u8 c, .bool i, .bool u]] w fun e w' => e = .returned (.bool true) ∧ Below w.heap.size w w' := by
  go_enter Try.func3, Try.ntmps3
  go_wp2_with fail
  refine (awake_any _).mono ?_
  rintro e w1 ⟨rfl, hb1⟩
  have Q1 := (Row6.new w (.int .u8 k) (.int .i64 r) (.int .i64 l) (.int .u8 c) (.bool i) (.bool u) 26).step hb1
  have hB1 := below_alloc _ hb1
  clear hb1
  obtain ⟨q0, q1, q2, q3, q4, q5, qf, ql⟩ := Q1.out
  go_wp2_with fail
  go_region_held3 (fun w' => Below w.heap.size w w' ∧ w.heap.size < w'.heap.size ∧ w'.cell? ⟨w.heap.size, 0, none⟩ = some (.int .u8 k) ∧ w'.cell? ⟨w.heap.size, 1, none⟩ = some (.int .i64 r) ∧ w'.cell? ⟨w.heap.size, 2, none⟩ = some (.int .i64 l) ∧ w'.cell? ⟨w.heap.size, 3, none⟩ = some (.int .u8 c) ∧ w'.cell? ⟨w.heap.size, 4, none⟩ = some (.bool i) ∧ w'.cell? ⟨w.heap.size, 5, none⟩ = some (.bool u)) (first | exact ⟨hB1.drew, ql, q0, q1, q2, q3, q4, q5⟩ | exact held6 ‹_› hb3)
    (first | (go_at_call 10; refine (style_any _ _ _ _).mono ?_; rintro e w3 ⟨rfl, hb3⟩) | (go_at_call 11; refine (rstyle_any _ _ _ _).mono ?_; rintro e w3 ⟨rfl, hb3⟩) | (go_at_call 12; refine (check_any _ _ _ _ _ _ _).mono ?_; rintro e w3 ⟨rfl, hb3⟩) | (go_at_call 13; refine (rcheck_any _ _ _ _ _ _ _).mono ?_; rintro e w3 ⟨rfl, hb3⟩))
  all_goals
    go_wp2
    go_ret
    exact ⟨rfl, (‹Below w.heap.size w _ ∧ _›).1⟩
set_option maxHeartbeats 4000000 in
theorem law_puts (k r l c : Int) (i u : Bool) (hc : 0 ≤ c) (w : World) :
    Calls Try.prog 4 #[.agg #[.int .u8 k, .int .i64 r, .int .i64 l, .int .u8 c, .bool i, .bool u]] w fun e w' => e = .returned (.bool true) ∧ Below w.heap.size w w' := by
  obtain ⟨x, y, z, hp⟩ : ∃ x y z, Pl.put (k, r, l, c, i, u) = (x, y, z) := ⟨_, _, _, rfl⟩
  have Hp := Lib.hid hp; clear hp
  go_enter Try.func4, Try.ntmps4
  go_wp2_with fail
  refine (awake_any _).mono ?_
  rintro e w1 ⟨rfl, hb1⟩
  have Q1 := (Row6.new w (.int .u8 k) (.int .i64 r) (.int .i64 l) (.int .u8 c) (.bool i) (.bool u) 26).step hb1
  have hB1 := below_alloc _ hb1
  clear hb1
  obtain ⟨q0, q1, q2, q3, q4, q5, qf, ql⟩ := Q1.out
  go_wp2_with fail
  refine (put_any k r l c i u hc _).mono ?_
  rintro e w2 ⟨rfl, hb2⟩
  rw [putV_eq Hp.out]
  have Q2 := Q1.step hb2
  have hB2 := below_then hB1 hb2
  clear hb2 hB1 Q1 q0 q1 q2 q3 q4 q5 qf ql
  obtain ⟨q0, q1, q2, q3, q4, q5, qf, ql⟩ := Q2.out
  go_wp2_with fail
  refine (rput_any k r l c i u hc _).mono ?_
  rintro e w3 ⟨rfl, hb3⟩
  rw [putV_eq Hp.out]
  go_wp2
  go_ret
  exact ⟨rfl, below_then hB2 hb3⟩
set_option maxHeartbeats 4000000 in
theorem law_gets (one two : Int) (h1 : 0 ≤ one) (h2 : 0 ≤ two) (h3 : two ≤ 255) (w : World) :
    Calls Try.prog 5 #[.int .u8 one, .int .u8 two] w fun e w' => e = .returned (.bool true) ∧ Below w.heap.size w w' := by
  obtain ⟨k, r, l, c, i, u, b, hg⟩ : ∃ k r l c i u b, getV (Pl.get one two) = .tuple #[.agg #[.int .u8 k, .int .i64 r, .int .i64 l, .int .u8 c, .bool i, .bool u], .bool b] := ⟨_, _, _, _, _, _, _, rfl⟩
  have Hg := Lib.hid hg; clear hg
  go_enter Try.func5, Try.ntmps5
  go_wp2_with fail
  refine (awake_any _).mono ?_
  rintro e w1 ⟨rfl, hb1⟩
  go_wp2_with fail
  refine (get_any one two h1 h2 h3 _).mono ?_
  rintro e w2 ⟨rfl, hb2⟩
  rw [Hg.out]
  have hB2 := below_then hb1 hb2
  clear hb1 hb2
  go_upto_region 4 with fail
  obtain ⟨W2, hW2, hb3⟩ := newWorld w2 (.cells #[.int .u8 k, .int .i64 r, .int .i64 l, .int .u8 c, .bool i, .bool u] 26)
  rw [← hW2]
  have Q2 := Row6.new w2 (.int .u8 k) (.int .i64 r) (.int .i64 l) (.int .u8 c) (.bool i) (.bool u) 26
  rw [← hW2] at Q2
  have hB3 := below_then hB2 hb3
  clear hW2 hB2 hb3
  go_wp2_with fail
  refine (rget_any one two h1 h2 h3 _).mono ?_
  rintro e w3 ⟨rfl, hb3⟩
  rw [get_eq one two h2 h3, Hg.out]
  have Q3 := Q2.step hb3
  have hB4 := below_then hB3 hb3
  clear hB3 hb3 Q2
  go_upto_region 5 with fail
  obtain ⟨W4, hW4, hb4⟩ := newWorld w3 (.cells #[.int .u8 k, .int .i64 r, .int .i64 l, .int .u8 c, .bool i, .bool u] 26)
  rw [← hW4]
  have Q4 := Q3.step hb4
  have P4 := Row6.new w3 (.int .u8 k) (.int .i64 r) (.int .i64 l) (.int .u8 c) (.bool i) (.bool u) 26
  rw [← hW4] at P4
  have hB5 := below_then hB4 hb4
  clear hW4 hB4 hb4 Q3
  obtain ⟨q0, q1, q2, q3, q4, q5, qf, ql⟩ := Q4.out
  obtain ⟨p0, p1, p2, p3, p4, p5, pf, pl⟩ := P4.out
  go_wp2_with (first | (go_at_call 18; refine (control_any _ _ _).mono ?_; rintro e w5 ⟨rfl, rfl⟩) | (go_at_call 19; refine (rcontrol_any _ _ _).mono ?_; rintro e w5 ⟨rfl, rfl⟩))
  go_ret
  exact ⟨rfl, hB5⟩
end Go.Proofs.Ytjghleeobdbkgaa
