/- Both Puts at every code: one function of numbers. -/
import Derived.Test.YtjghleeobdbkgaaRPut
namespace Go.Proofs.Ytjghleeobdbkgaa
open Go.RowKit Pl
set_option maxHeartbeats 2000000 in
theorem rput_oth (k : Int) (h1 : 4 ≤ k) (h2 : k ≤ 14) (h : chk k 0 0 0 false false = 0) (w : World) :
    Calls Try.prog 15 #[.agg #[.int .u8 k, .int .i64 0, .int .i64 0, .int .u8 0, .bool false, .bool false]] w fun e w' => e = .returned (.tuple #[.int .u8 20, .int .u8 (snd2 k), .int .i64 0]) ∧ Below w.heap.size w w' := by
  have H := Lib.hid h; clear h
  have sr := snd_row k h1 h2
  go_enter Try.func15, Try.ntmps15
  go_wp2_with fail
  refine (rcheck_any _ _ _ _ _ _ _).mono ?_
  rintro e w1 ⟨rfl, hb⟩
  rw [H.out]
  obtain ⟨hcl, hfr⟩ := bcell hb
  have hz := hb.size
  have hz1 : w.heap.size < w1.heap.size := by simp at hz; omega
  clear hz
  go_wp2_with fail
  have e1 : IntKind.u8.wrap (k - 4) = k - 4 := IntWalk.u8_in _ (by omega)
  have e2 : 0 ≤ k - 4 := by omega
  have e3 : k - 4 < 11 := by omega
  go_region_with (go_at_call 29; refine (seconds_any _).mono ?_; rintro e w2 ⟨rfl, rfl⟩)
  all_goals
    go_wp2
    go_ret3
    exact ⟨rfl, ((below_alloc _ hb).alloc (Nat.le_of_lt hz1) _).drew⟩
/-- A code as the program holds it. -/
def cv (x : Cd) : Value := .agg #[.int .u8 x.1, .int .i64 x.2.1, .int .i64 x.2.2.1, .int .u8 x.2.2.2.1, .bool x.2.2.2.2.1, .bool x.2.2.2.2.2]
def putV (x : Cd) : Value := .tuple #[.int .u8 (put x).1, .int .u8 (put x).2.1, .int .i64 (put x).2.2]
theorem put_ok {k r l c : Int} {i u : Bool} (h : chk k r l c i u = 0) : put (k, r, l, c, i, u) = ((ptb k r l c i u).1, (ptb k r l c i u).2, 0) := by simp [put, h]
theorem put_ne {k r l c : Int} {i u : Bool} (h : chk k r l c i u ≠ 0) : put (k, r, l, c, i, u) = (0, 0, chk k r l c i u) := by simp [put, h]
theorem put_any (k r l c : Int) (i u : Bool) (hc : 0 ≤ c) (w : World) :
    Calls Try.prog 14 #[cv (k, r, l, c, i, u)] w fun e w' => e = .returned (putV (k, r, l, c, i, u)) ∧ Below w.heap.size w w' := by
  unfold putV cv
  by_cases h : chk k r l c i u = 0
  · rw [put_ok h]
    by_cases k1 : k = 1
    · subst k1
      obtain ⟨h1, h2, h3, h4, h5, hs, hp⟩ := chk1 h
      by_cases h0 : l = 0
      · subst h0
        simpa [ptb] using put_pre0 r c i u hc h1 h2 hs h w
      · obtain ⟨rfl, rfl⟩ := hp.resolve_left h0
        simpa [ptb, h0] using put_pre1 r l u h1 h2 (by omega) h4 h w
    by_cases k2 : k = 2
    · subst k2
      obtain ⟨rfl, rfl, hs⟩ := chk2 h
      simpa [ptb] using put_mid c i u hc hs h w
    by_cases k3 : k = 3
    · subst k3
      obtain ⟨rfl, h1, h2, rfl, rfl, rfl⟩ := chk3 h
      simpa [ptb] using put_tab l h1 h2 h w
    obtain ⟨h1, h2, rfl, rfl, rfl, rfl, rfl⟩ := chk4 h k1 k2 k3
    simpa [ptb, k1, k2, k3] using put_oth k h1 h2 h w
  · rw [put_ne h]
    exact put_bad k r l c _ i u rfl h w
theorem rput_any (k r l c : Int) (i u : Bool) (hc : 0 ≤ c) (w : World) :
    Calls Try.prog 15 #[cv (k, r, l, c, i, u)] w fun e w' => e = .returned (putV (k, r, l, c, i, u)) ∧ Below w.heap.size w w' := by
  unfold putV cv
  by_cases h : chk k r l c i u = 0
  · rw [put_ok h]
    by_cases k1 : k = 1
    · subst k1
      obtain ⟨h1, h2, h3, h4, h5, hs, hp⟩ := chk1 h
      by_cases h0 : l = 0
      · subst h0
        simpa [ptb] using rput_pre0 r c i u hc h1 h2 hs h w
      · obtain ⟨rfl, rfl⟩ := hp.resolve_left h0
        simpa [ptb, h0] using rput_pre1 r l u h1 h2 (by omega) h4 h w
    by_cases k2 : k = 2
    · subst k2
      obtain ⟨rfl, rfl, hs⟩ := chk2 h
      simpa [ptb] using rput_mid c i u hc hs h w
    by_cases k3 : k = 3
    · subst k3
      obtain ⟨rfl, h1, h2, rfl, rfl, rfl⟩ := chk3 h
      simpa [ptb] using rput_tab l h1 h2 h w
    obtain ⟨h1, h2, rfl, rfl, rfl, rfl, rfl⟩ := chk4 h k1 k2 k3
    simpa [ptb, k1, k2, k3] using rput_oth k h1 h2 h w
  · rw [put_ne h]
    exact rput_bad k r l c _ i u rfl h w
end Go.Proofs.Ytjghleeobdbkgaa
