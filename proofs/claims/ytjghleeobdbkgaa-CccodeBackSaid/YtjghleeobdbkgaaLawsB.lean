/- The law that codes are read back, walked. -/
import Derived.Test.YtjghleeobdbkgaaLawsA
import Derived.Test.YtjghleeobdbkgaaLawB
import Derived.Test.YtjghleeobdbkgaaCodes
namespace Go.Proofs.Ytjghleeobdbkgaa
open Go.RowKit Pl
set_option linter.unusedVariables false
theorem ctl_in {x : Int} (h1 : 16 ≤ x) (h2 : x ≤ 31) : ctl x = true := by simp [ctl, h1, h2]
set_option maxRecDepth 100000 in
set_option maxHeartbeats 4000000 in
theorem law_back (k r l c one two : Int) (i u : Bool) (hc : 0 ≤ c) (h1 : 0 ≤ one) (h2 : 0 ≤ two) (h3 : two ≤ 255) (w : World) :
    Calls Try.prog 6 #[.agg #[.int .u8 k, .int .i64 r, .int .i64 l, .int .u8 c, .bool i, .bool u], .int .u8 one, .int .u8 two] w fun e w' => e = .returned (.bool true) ∧ Below w.heap.size w w' := by
  obtain ⟨x, y, z, hp⟩ : ∃ x y z, Pl.put (k, r, l, c, i, u) = (x, y, z) := ⟨_, _, _, rfl⟩
  have hz : chk k r l c i u = z := by rw [← put_err, hp]
  obtain ⟨g1, g2, g3, g4⟩ := put_rng hc hp
  have Hp := Lib.hid hp
  have Hz := Lib.hid hz; clear hz
  go_enter Try.func6, Try.ntmps6
  go_wp2_with fail
  refine (awake_any _).mono ?_
  rintro e w1 ⟨rfl, hb1⟩
  have Q1 := (Row6.new w (.int .u8 k) (.int .i64 r) (.int .i64 l) (.int .u8 c) (.bool i) (.bool u) 26).step hb1
  have hB1 := below_alloc _ hb1
  clear hb1
  obtain ⟨q0, q1, q2, q3, q4, q5, qf, ql⟩ := Q1.out
  go_wp2_with fail
  refine (put_any k r l c i u hc _).mono ?_
  rintro e w2 ⟨rfl, hb2⟩
  rw [putV_eq Hp.out]
  have Q2 := Q1.step hb2
  have hB2 := below_then hB1 hb2
  clear hb2 hB1 Q1 q0 q1 q2 q3 q4 q5 qf ql
  obtain ⟨q0, q1, q2, q3, q4, q5, qf, ql⟩ := Q2.out
  go_wp2_with fail
  refine (check_any k r l c i u _).mono ?_
  rintro e w3 ⟨rfl, hb3⟩
  rw [Hz.out]
  have Q3 := Q2.step hb3
  have hB3 := below_then hB2 hb3
  clear hb3 hB2 Q2 q0 q1 q2 q3 q4 q5 qf ql
  by_cases h0 : z = 0
  · subst h0
    obtain ⟨b1, b2, b3⟩ := back1 hc hp
    have b4 := ctl_in b2 b3
    have B1 := Lib.hid b1; clear b1 hp
    go_wp2_with fail
    refine (get_any x y g1 g3 g4 _).mono ?_
    rintro e w4 ⟨rfl, hb4⟩
    rw [B1.out, getV_some]
    have Q4 := Q3.step hb4
    have hB4 := below_then hB3 hb4
    clear hB3 hb4 Q3
    go_upto_region 8 with fail
    obtain ⟨W5, hW5, hb5⟩ := newWorld w4 (.cells #[.int .u8 k, .int .i64 r, .int .i64 l, .int .u8 c, .bool i, .bool u] 26)
    rw [← hW5]
    have Q5 := Q4.step hb5
    have P5 := Row6.new w4 (.int .u8 k) (.int .i64 r) (.int .i64 l) (.int .u8 c) (.bool i) (.bool u) 26
    rw [← hW5] at P5
    have hB := below_then hB4 hb5
    clear hW5 hB4 hb5 Q4
    obtain ⟨q0, q1, q2, q3, q4, q5, qf, ql⟩ := Q5.out
    obtain ⟨p0, p1, p2, p3, p4, p5, pf, pl⟩ := P5.out
    go_upto_region 10 with (go_at_call 18; refine (control_any _ _ _).mono ?_; rintro e w6 ⟨rfl, rfl⟩; rw [b4])
    clear q0 q1 q2 q3 q4 q5 qf ql p0 p1 p2 p3 p4 p5 pf pl P5 Q5
    go_wp2_with fail
    refine (get_any one two h1 h2 h3 _).mono ?_
    rintro e w7 ⟨rfl, hb7⟩
    have hB7 := below_then hB hb7
    have hf := back2 one two h2 h3
    clear hB hb7
    cases hg : Pl.get one two with
    | none =>
      rw [getV_none]
      clear hg hf
      go_upto_region 11 with fail
      obtain ⟨W8, hW8, hb8⟩ := newWorld w7 (.cells #[.int .u8 0, .int .i64 0, .int .i64 0, .int .u8 0, .bool false, .bool false] 26)
      rw [← hW8]
      have P8 := Row6.new w7 (.int .u8 0) (.int .i64 0) (.int .i64 0) (.int .u8 0) (.bool false) (.bool false) 26
      rw [← hW8] at P8
      have hB8 := below_then hB7 hb8
      clear hW8 hB7 hb8
      obtain ⟨p0, p1, p2, p3, p4, p5, pf, pl⟩ := P8.out
      go_wp2_with fail
      go_ret
      exact ⟨rfl, hB8⟩
    | some x =>
      obtain ⟨k2, r2, l2, c2, i2, u2⟩ := x
      have hc2 := get_col hg h2 h3
      obtain ⟨x2, y2, z2, hp2⟩ : ∃ x y z, Pl.put (k2, r2, l2, c2, i2, u2) = (x, y, z) := ⟨_, _, _, rfl⟩
      obtain ⟨g5, g6, g7, g8⟩ := put_rng hc2 hp2
      have hs : z2 = 0 ∧ x2 = one ∧ (y2 = two ∨ (k2 = 1 ∧ l2 = 0 ∧ y2 + 16 = two)) := by
        unfold fits at hf
        rw [hg] at hf
        simp only [hp2, decide_eq_true_eq] at hf
        exact hf
      rw [getV_some]
      have Hp2 := Lib.hid hp2; clear hp2 hg hf
      obtain ⟨rfl, rfl, hy⟩ := hs
      go_upto_region 11 with fail
      obtain ⟨W8, hW8, hb8⟩ := newWorld w7 (.cells #[.int .u8 k2, .int .i64 r2, .int .i64 l2, .int .u8 c2, .bool i2, .bool u2] 26)
      rw [← hW8]
      have P8 := Row6.new w7 (.int .u8 k2) (.int .i64 r2) (.int .i64 l2) (.int .u8 c2) (.bool i2) (.bool u2) 26
      rw [← hW8] at P8
      have hB8 := below_then hB7 hb8
      clear hW8 hB7 hb8
      obtain ⟨p0, p1, p2, p3, p4, p5, pf, pl⟩ := P8.out
      have Hy := Lib.hid hy; clear hy
      go_wp2_with fail
      refine (put_any k2 r2 l2 c2 i2 u2 hc2 _).mono ?_
      rintro e w9 ⟨rfl, hb9⟩
      rw [putV_eq Hp2.out]
      have P9 := P8.step hb9
      have hB9 := below_then hB8 hb9
      clear hb9 hB8 P8 p0 p1 p2 p3 p4 p5 pf pl
      rcases Hy.out with rfl | ⟨rfl, rfl, h16⟩
      · clear Hy
        go_wp2_with fail
        go_ret
        exact ⟨rfl, hB9⟩
      · clear Hy
        have d1 : (y2 == two) = false := by simp; omega
        have d2 : (y2 + 16 == two) = true := by simp [h16]
        have d3 : y2 + 16 ≤ 255 := by omega
        clear h16
        obtain ⟨p0, p1, p2, p3, p4, p5, pf, pl⟩ := P9.out
        go_wp2_with fail
        go_ret
        exact ⟨rfl, hB9⟩
  · have d0 : (z == 0) = false := by simpa using h0
    clear h0 hp
    go_upto_region 10 with fail
    have hB := hB3
    clear hB3
    clear Q3
    go_wp2_with fail
    refine (get_any one two h1 h2 h3 _).mono ?_
    rintro e w7 ⟨rfl, hb7⟩
    have hB7 := below_then hB hb7
    have hf := back2 one two h2 h3
    clear hB hb7
    cases hg : Pl.get one two with
    | none =>
      rw [getV_none]
      clear hg hf
      go_upto_region 11 with fail
      obtain ⟨W8, hW8, hb8⟩ := newWorld w7 (.cells #[.int .u8 0, .int .i64 0, .int .i64 0, .int .u8 0, .bool false, .bool false] 26)
      rw [← hW8]
      have P8 := Row6.new w7 (.int .u8 0) (.int .i64 0) (.int .i64 0) (.int .u8 0) (.bool false) (.bool false) 26
      rw [← hW8] at P8
      have hB8 := below_then hB7 hb8
      clear hW8 hB7 hb8
      obtain ⟨p0, p1, p2, p3, p4, p5, pf, pl⟩ := P8.out
      go_wp2_with fail
      go_ret
      exact ⟨rfl, hB8⟩
    | some x =>
      obtain ⟨k2, r2, l2, c2, i2, u2⟩ := x
      have hc2 := get_col hg h2 h3
      obtain ⟨x2, y2, z2, hp2⟩ : ∃ x y z, Pl.put (k2, r2, l2, c2, i2, u2) = (x, y, z) := ⟨_, _, _, rfl⟩
      obtain ⟨g5, g6, g7, g8⟩ := put_rng hc2 hp2
      have hs : z2 = 0 ∧ x2 = one ∧ (y2 = two ∨ (k2 = 1 ∧ l2 = 0 ∧ y2 + 16 = two)) := by
        unfold fits at hf
        rw [hg] at hf
        simp only [hp2, decide_eq_true_eq] at hf
        exact hf
      rw [getV_some]
      have Hp2 := Lib.hid hp2; clear hp2 hg hf
      obtain ⟨rfl, rfl, hy⟩ := hs
      go_upto_region 11 with fail
      obtain ⟨W8, hW8, hb8⟩ := newWorld w7 (.cells #[.int .u8 k2, .int .i64 r2, .int .i64 l2, .int .u8 c2, .bool i2, .bool u2] 26)
      rw [← hW8]
      have P8 := Row6.new w7 (.int .u8 k2) (.int .i64 r2) (.int .i64 l2) (.int .u8 c2) (.bool i2) (.bool u2) 26
      rw [← hW8] at P8
      have hB8 := below_then hB7 hb8
      clear hW8 hB7 hb8
      obtain ⟨p0, p1, p2, p3, p4, p5, pf, pl⟩ := P8.out
      have Hy := Lib.hid hy; clear hy
      go_wp2_with fail
      refine (put_any k2 r2 l2 c2 i2 u2 hc2 _).mono ?_
      rintro e w9 ⟨rfl, hb9⟩
      rw [putV_eq Hp2.out]
      have P9 := P8.step hb9
      have hB9 := below_then hB8 hb9
      clear hb9 hB8 P8 p0 p1 p2 p3 p4 p5 pf pl
      rcases Hy.out with rfl | ⟨rfl, rfl, h16⟩
      · clear Hy
        go_wp2_with fail
        go_ret
        exact ⟨rfl, hB9⟩
      · clear Hy
        have d1 : (y2 == two) = false := by simp; omega
        have d2 : (y2 + 16 == two) = true := by simp [h16]
        have d3 : y2 + 16 ≤ 255 := by omega
        clear h16
        obtain ⟨p0, p1, p2, p3, p4, p5, pf, pl⟩ := P9.out
        go_wp2_with fail
        go_ret
        exact ⟨rfl, hB9⟩
end Go.Proofs.Ytjghleeobdbkgaa
