/- The laws on the list of codes, walked. -/
import Derived.Test.YtjghleeobdbkgaaRCodes
namespace Go.Proofs.Ytjghleeobdbkgaa
open Go.RowKit Pl
set_option linter.unusedVariables false
theorem own_cell6 {w : World} {B g cap n : Nat} {l : List Cd} (h : w.ownsRow B 26 6 (.slice (some ⟨g, 0, none⟩) n cap) n (cvs l)) (k : Nat) (hk : k < l.length) :
    w.cell? ⟨g, k * 6, none⟩ = some (.int .u8 l[k].1) ∧ w.cell? ⟨g, k * 6 + 1, none⟩ = some (.int .i64 l[k].2.1) ∧ w.cell? ⟨g, k * 6 + 2, none⟩ = some (.int .i64 l[k].2.2.1) ∧ w.cell? ⟨g, k * 6 + 3, none⟩ = some (.int .u8 l[k].2.2.2.1) ∧ w.cell? ⟨g, k * 6 + 4, none⟩ = some (.bool l[k].2.2.2.2.1) ∧ w.cell? ⟨g, k * 6 + 5, none⟩ = some (.bool l[k].2.2.2.2.2) := by
  obtain ⟨s0, s1, s2, s3, s4, s5⟩ := cvs_get l k hk
  exact ⟨own_cell h s0, own_cell h s1, own_cell h s2, own_cell h s3, own_cell h s4, own_cell h s5⟩
set_option maxRecDepth 100000 in
set_option maxHeartbeats 4000000 in
theorem law_list (n : Nat) (hn : n ≤ 65535) (w : World) :
    Calls Try.prog 7 #[.int .u16 n] w fun e w' => e = .returned (.bool true) ∧ Below w.heap.size w w' := by
  go_enter Try.func7, Try.ntmps7
  go_wp2_with fail
  refine (awake_any _).mono ?_
  rintro e w1 ⟨rfl, hb1⟩
  go_wp2_with fail
  refine (codes_any _).mono ?_
  rintro e w2 ⟨s, rfl, hs, hb2⟩
  obtain ⟨g, cap, rfl, hc1, hc2, hg1, hg2⟩ := own_slice hs (by omega)
  have hB2 := below_then hb1 hb2
  clear hb1 hb2
  go_wp2_with fail
  refine (rcodes_any _).mono ?_
  rintro e w3 ⟨s, rfl, ht, hb3⟩
  obtain ⟨g', cap', rfl, hd1, hd2, hh1, hh2⟩ := own_slice ht (by omega)
  have hs3 := own_stays hs hb3
  have hB3 := below_then hB2 hb3
  clear hB2 hb3 hs
  have hlt : n % 480 < (K1 8).length := by rw [K_len]; omega
  obtain ⟨q0, q1, q2, q3, q4, q5⟩ := own_cell6 hs3 (n % 480) hlt
  obtain ⟨p0, p1, p2, p3, p4, p5⟩ := own_cell6 ht (n % 480) hlt
  obtain ⟨x, hx⟩ : ∃ x, x = (K1 8)[n % 480] := ⟨_, rfl⟩
  rw [← hx] at q0 q1 q2 q3 q4 q5 p0 p1 p2 p3 p4 p5
  obtain ⟨k, r, l, c, i, u⟩ := x
  simp only [] at q0 q1 q2 q3 q4 q5 p0 p1 p2 p3 p4 p5
  clear hx hlt hs3 ht
  have e1 : 0 ≤ (n : Int) % 480 := by omega
  have e2 : (n : Int) % 480 < 480 := by omega
  go_wp2_with fail
  go_quiet (fail)
  go_wp2
  go_ret
  exact ⟨rfl, below_drewN _ hB3⟩
/-- The pairs ascend. -/
def asc : List Cd → Bool
  | x :: y :: l => decide ((Pl.put x).2.2 = 0 ∧ (Pl.put y).2.2 = 0 ∧ ((Pl.put x).1 < (Pl.put y).1 ∨ ((Pl.put x).1 = (Pl.put y).1 ∧ (Pl.put x).2.1 < (Pl.put y).2.1)) ∧ 0 ≤ x.2.2.2.1 ∧ 0 ≤ y.2.2.2.1) && asc (y :: l)
  | _ => true
theorem asc_at : ∀ (l : List Cd), asc l = true → ∀ k (h : k + 1 < l.length), (Pl.put l[k]).2.2 = 0 ∧ (Pl.put l[k + 1]).2.2 = 0 ∧ ((Pl.put l[k]).1 < (Pl.put l[k + 1]).1 ∨ ((Pl.put l[k]).1 = (Pl.put l[k + 1]).1 ∧ (Pl.put l[k]).2.1 < (Pl.put l[k + 1]).2.1)) ∧ 0 ≤ l[k].2.2.2.1 ∧ 0 ≤ l[k + 1].2.2.2.1 := by
  intro l
  induction l with
  | nil => intro _ k h; simp at h
  | cons x l ih =>
    intro ha k h
    cases l with
    | nil => simp at h
    | cons y l =>
      simp only [asc, Bool.and_eq_true, decide_eq_true_eq] at ha
      cases k with
      | zero => exact ha.1
      | succ k => exact ih ha.2 k (by simpa using h)
theorem asc_codes : asc (K1 8) = true := by decide +kernel
set_option maxRecDepth 100000 in
set_option maxHeartbeats 4000000 in
theorem law_order (n : Nat) (hn : n ≤ 65535) (w : World) :
    Calls Try.prog 8 #[.int .u16 n] w fun e w' => e = .returned (.bool true) ∧ Below w.heap.size w w' := by
  go_enter Try.func8, Try.ntmps8
  go_wp2_with fail
  refine (awake_any _).mono ?_
  rintro e w1 ⟨rfl, hb1⟩
  go_wp2_with fail
  refine (codes_any _).mono ?_
  rintro e w2 ⟨s, rfl, hs, hb2⟩
  obtain ⟨g, cap, rfl, hc1, hc2, hg1, hg2⟩ := own_slice hs (by omega)
  have hB2 := below_then hb1 hb2
  clear hb1 hb2
  have hlt : n % 479 + 1 < (K1 8).length := by rw [K_len]; omega
  obtain ⟨a1, a2, a3, a4, a5⟩ := asc_at _ asc_codes (n % 479) hlt
  obtain ⟨q0, q1, q2, q3, q4, q5⟩ := own_cell6 hs (n % 479) (by omega)
  obtain ⟨x, hx⟩ : ∃ x, x = (K1 8)[n % 479] := ⟨_, rfl⟩
  obtain ⟨y, hy⟩ : ∃ y, y = (K1 8)[n % 479 + 1] := ⟨_, rfl⟩
  rw [← hx] at q0 q1 q2 q3 q4 q5 a1 a3 a4
  rw [← hy] at a2 a3 a5
  have Hy := Lib.hid hy
  clear hx hy
  obtain ⟨k, r, l, c, i, u⟩ := x
  obtain ⟨k2, r2, l2, c2, i2, u2⟩ := y
  simp only [] at q0 q1 q2 q3 q4 q5 a4 a5
  obtain ⟨x, y, z, hp⟩ : ∃ x y z, Pl.put (k, r, l, c, i, u) = (x, y, z) := ⟨_, _, _, rfl⟩
  obtain ⟨x2, y2, z2, hp2⟩ : ∃ x y z, Pl.put (k2, r2, l2, c2, i2, u2) = (x, y, z) := ⟨_, _, _, rfl⟩
  rw [hp] at a1 a3
  rw [hp2] at a2 a3
  simp only [] at a1 a2 a3
  subst a1 a2
  have Hp := Lib.hid hp; have Hp2 := Lib.hid hp2
  have A3 := Lib.hid a3
  clear hp hp2 a3
  have e1 : 0 ≤ (n : Int) % 479 := by omega
  have e2 : (n : Int) % 479 < 479 := by omega
  go_wp2_with fail
  refine (put_any k r l c i u a4 _).mono ?_
  rintro e w3 ⟨rfl, hb3⟩
  rw [putV_eq Hp.out]
  have hs3 := own_stays hs hb3
  have hB3 := below_then hB2 hb3
  clear hB2 hb3 hs q0 q1 q2 q3 q4 q5
  obtain ⟨q0, q1, q2, q3, q4, q5⟩ := own_cell6 hs3 (n % 479 + 1) hlt
  rw [← Hy.out] at q0 q1 q2 q3 q4 q5
  simp only [] at q0 q1 q2 q3 q4 q5
  clear Hy hlt
  go_wp2_with fail
  refine (put_any k2 r2 l2 c2 i2 u2 a5 _).mono ?_
  rintro e w4 ⟨rfl, hb4⟩
  rw [putV_eq Hp2.out]
  have hB4 := below_then hB3 hb4
  rcases A3.out with h | ⟨h1, h2⟩
  · go_wp2_with fail
    go_ret
    exact ⟨rfl, hB4⟩
  · subst h1
    have d1 : decide (x < x) = false := by simp
    go_wp2_with fail
    go_ret
    exact ⟨rfl, hB4⟩
end Go.Proofs.Ytjghleeobdbkgaa
