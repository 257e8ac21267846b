/- The code of a pair in the program, walked. -/
import Derived.Test.YtjghleeobdbkgaaRow6
namespace Go.Proofs.Ytjghleeobdbkgaa
open Go.RowKit Pl
set_option linter.unusedVariables false
set_option maxHeartbeats 2000000 in
theorem get_pre (one two k r l c : Int) (i u : Bool) (h1 : 0 ≤ one) (h2 : 0 ≤ two) (h3 : two ≤ 255) (hp : preL one two rows15 = some (k, r, l, c, i, u)) (w : World) :
    Calls Try.prog 16 #[.int .u8 one, .int .u8 two] w fun e w' => e = .returned (getV (some (k, r, l, c, i, u))) ∧ Below w.heap.size w w' := by
  have H := Lib.hid hp; clear hp
  rw [getV_some]
  go_enter Try.func16, Try.ntmps16
  go_wp2_with fail
  refine (preamble_any _ two h1 h2 h3 _).mono ?_
  rintro e w1 ⟨rfl, hb⟩
  rw [H.out, getV_some]
  have R1 := (Row6.new w (.int .u8 0) (.int .i64 0) (.int .i64 0) (.int .u8 0) (.bool false) (.bool false) 26).step hb
  have hB1 := below_alloc _ hb
  clear hb
  go_upto_region 2 with fail
  obtain ⟨W2, hW2, hb2⟩ := newWorld w1 (.cells #[.int .u8 k, .int .i64 r, .int .i64 l, .int .u8 c, .bool i, .bool u] 26)
  rw [← hW2]
  have R2 := R1.step hb2
  have Q2 := Row6.new w1 (.int .u8 k) (.int .i64 r) (.int .i64 l) (.int .u8 c) (.bool i) (.bool u) 26
  rw [← hW2] at Q2
  have hB2 := below_then hB1 hb2
  clear hW2 hb2 R1 hB1
  obtain ⟨p0, p1, p2, p3, p4, p5, pf, pl⟩ := R2.out
  obtain ⟨q0, q1, q2, q3, q4, q5, qf, ql⟩ := Q2.out
  go_wp2_with fail
  refine bodyPost_ret (v := .tuple #[.agg #[.int .u8 k, .int .i64 r, .int .i64 l, .int .u8 c, .bool i, .bool u], .bool true]) (by simp [results, Try.results16, go_sem, p0, p1, p2, p3, p4, p5]) rfl ⟨rfl, ?_⟩
  iterate 6 refine Below.setCell ?_ (by exact Nat.le_refl _) _
  exact hB2
set_option maxHeartbeats 2000000 in
theorem get_mid (one two : Int) (h1 : 0 ≤ one) (h2 : 0 ≤ two) (h3 : two ≤ 255) (c1 : one = 17) (c2 : 32 ≤ two) (c3 : two ≤ 47) (hp : preL one two rows15 = none) (w : World) :
    Calls Try.prog 16 #[.int .u8 one, .int .u8 two] w fun e w' => e = .returned (.tuple #[.agg #[.int .u8 2, .int .i64 0, .int .i64 0, .int .u8 (std (two - 32)).1, .bool (std (two - 32)).2.1, .bool (std (two - 32)).2.2], .bool true]) ∧ Below w.heap.size w w' := by
  subst c1
  have H := Lib.hid hp; clear hp
  go_enter Try.func16, Try.ntmps16
  go_wp2_with fail
  refine (preamble_any _ two h1 h2 h3 _).mono ?_
  rintro e w1 ⟨rfl, hb⟩
  rw [H.out, getV_none]
  have R1 := (Row6.new w (.int .u8 0) (.int .i64 0) (.int .i64 0) (.int .u8 0) (.bool false) (.bool false) 26).step hb
  have hB1 := below_alloc _ hb
  clear hb
  go_upto_region 2 with fail
  obtain ⟨W2, hW2, hb2⟩ := newWorld w1 (.cells #[.int .u8 0, .int .i64 0, .int .i64 0, .int .u8 0, .bool false, .bool false] 26)
  rw [← hW2]
  have R2 := R1.step hb2
  have hB2 := below_then hB1 hb2
  clear hW2 hb2 R1 hB1
  go_wp2_with fail
  refine (styled_any _ (by omega) _).mono ?_
  rintro e w3 ⟨rfl, hb3⟩
  have R3 := R2.step hb3
  have hB3 := below_then hB2 hb3
  clear hb3 R2 hB2
  obtain ⟨p0, p1, p2, p3, p4, p5, pf, pl⟩ := R3.out
  go_wp2_with fail
  refine bodyPost_ret (v := .tuple #[.agg #[.int .u8 2, .int .i64 0, .int .i64 0, .int .u8 (std (two - 32)).1, .bool (std (two - 32)).2.1, .bool (std (two - 32)).2.2], .bool true]) (by simp [results, Try.results16, go_sem, p0, p1, p2, p3, p4, p5]) rfl ⟨rfl, ?_⟩
  iterate 6 refine Below.setCell ?_ (by exact Nat.le_refl _) _
  exact hB3
set_option maxHeartbeats 2000000 in
theorem get_tab (one two : Int) (h1 : 0 ≤ one) (h2 : 0 ≤ two) (h3 : two ≤ 255) (c1 : one = 23) (c2 : 33 ≤ two) (c3 : two ≤ 35) (hp : preL one two rows15 = none) (w : World) :
    Calls Try.prog 16 #[.int .u8 one, .int .u8 two] w fun e w' => e = .returned (.tuple #[.agg #[.int .u8 3, .int .i64 0, .int .i64 (two - 32), .int .u8 0, .bool false, .bool false], .bool true]) ∧ Below w.heap.size w w' := by
  subst c1
  have H := Lib.hid hp; clear hp
  go_enter Try.func16, Try.ntmps16
  go_wp2_with fail
  refine (preamble_any _ two h1 h2 h3 _).mono ?_
  rintro e w1 ⟨rfl, hb⟩
  rw [H.out, getV_none]
  have R1 := (Row6.new w (.int .u8 0) (.int .i64 0) (.int .i64 0) (.int .u8 0) (.bool false) (.bool false) 26).step hb
  have hB1 := below_alloc _ hb
  clear hb
  go_upto_region 2 with fail
  obtain ⟨W2, hW2, hb2⟩ := newWorld w1 (.cells #[.int .u8 0, .int .i64 0, .int .i64 0, .int .u8 0, .bool false, .bool false] 26)
  rw [← hW2]
  have R2 := R1.step hb2
  have hB2 := below_then hB1 hb2
  clear hW2 hb2 R1 hB1
  obtain ⟨p0, p1, p2, p3, p4, p5, pf, pl⟩ := R2.out
  go_wp2_with fail
  refine bodyPost_ret (v := .tuple #[.agg #[.int .u8 3, .int .i64 0, .int .i64 (two - 32), .int .u8 0, .bool false, .bool false], .bool true]) (by simp [results, Try.results16, go_sem, p0, p1, p2, p3, p4, p5]) rfl ⟨rfl, ?_⟩
  iterate 6 refine Below.setCell ?_ (by exact Nat.le_refl _) _
  exact hB2
set_option maxHeartbeats 2000000 in
theorem get_zero (one two : Int) (h1 : 0 ≤ one) (h2 : 0 ≤ two) (h3 : two ≤ 255) (c : (one ≠ 17 ∧ one ≠ 23 ∧ one ≠ 20) ∨ (one = 17 ∧ (two < 32 ∨ 47 < two)) ∨ (one = 23 ∧ (two < 33 ∨ 35 < two))) (hp : preL one two rows15 = none) (w : World) :
    Calls Try.prog 16 #[.int .u8 one, .int .u8 two] w fun e w' => e = .returned (.tuple #[.agg #[.int .u8 0, .int .i64 0, .int .i64 0, .int .u8 0, .bool false, .bool false], .bool false]) ∧ Below w.heap.size w w' := by
  have H := Lib.hid hp; clear hp
  go_enter Try.func16, Try.ntmps16
  go_wp2_with fail
  refine (preamble_any _ two h1 h2 h3 _).mono ?_
  rintro e w1 ⟨rfl, hb⟩
  rw [H.out, getV_none]
  have R1 := (Row6.new w (.int .u8 0) (.int .i64 0) (.int .i64 0) (.int .u8 0) (.bool false) (.bool false) 26).step hb
  have hB1 := below_alloc _ hb
  clear hb
  go_upto_region 2 with fail
  obtain ⟨W2, hW2, hb2⟩ := newWorld w1 (.cells #[.int .u8 0, .int .i64 0, .int .i64 0, .int .u8 0, .bool false, .bool false] 26)
  rw [← hW2]
  have R2 := R1.step hb2
  have hB2 := below_then hB1 hb2
  clear hW2 hb2 R1 hB1
  obtain ⟨p0, p1, p2, p3, p4, p5, pf, pl⟩ := R2.out
  rcases c with ⟨c1, c2, c3⟩ | ⟨c1, c2 | c2⟩ | ⟨c1, c2 | c2⟩
  · have d1 : (one == 17) = false := by simpa using c1
    have d2 : (one == 23) = false := by simpa using c2
    have d3 : (one == 20) = false := by simpa using c3
    clear c1 c2 c3
    go_wp2_with fail
    refine bodyPost_ret (v := .tuple #[.agg #[.int .u8 0, .int .i64 0, .int .i64 0, .int .u8 0, .bool false, .bool false], .bool false]) (by simp [results, Try.results16, go_sem, p0, p1, p2, p3, p4, p5]) rfl ⟨rfl, ?_⟩
    iterate 6 refine Below.setCell ?_ (by exact Nat.le_refl _) _
    exact hB2
  · subst c1
    go_wp2_with fail
    refine bodyPost_ret (v := .tuple #[.agg #[.int .u8 0, .int .i64 0, .int .i64 0, .int .u8 0, .bool false, .bool false], .bool false]) (by simp [results, Try.results16, go_sem, p0, p1, p2, p3, p4, p5]) rfl ⟨rfl, ?_⟩
    iterate 6 refine Below.setCell ?_ (by exact Nat.le_refl _) _
    exact hB2
  · subst c1
    go_wp2_with fail
    refine bodyPost_ret (v := .tuple #[.agg #[.int .u8 0, .int .i64 0, .int .i64 0, .int .u8 0, .bool false, .bool false], .bool false]) (by simp [results, Try.results16, go_sem, p0, p1, p2, p3, p4, p5]) rfl ⟨rfl, ?_⟩
    iterate 6 refine Below.setCell ?_ (by exact Nat.le_refl _) _
    exact hB2
  · subst c1
    go_wp2_with fail
    refine bodyPost_ret (v := .tuple #[.agg #[.int .u8 0, .int .i64 0, .int .i64 0, .int .u8 0, .bool false, .bool false], .bool false]) (by simp [results, Try.results16, go_sem, p0, p1, p2, p3, p4, p5]) rfl ⟨rfl, ?_⟩
    iterate 6 refine Below.setCell ?_ (by exact Nat.le_refl _) _
    exact hB2
  · subst c1
    go_wp2_with fail
    refine bodyPost_ret (v := .tuple #[.agg #[.int .u8 0, .int .i64 0, .int .i64 0, .int .u8 0, .bool false, .bool false], .bool false]) (by simp [results, Try.results16, go_sem, p0, p1, p2, p3, p4, p5]) rfl ⟨rfl, ?_⟩
    iterate 6 refine Below.setCell ?_ (by exact Nat.le_refl _) _
    exact hB2
theorem sndL_hit {two k : Int} (h0 : 4 ≤ k) (h15 : k ≤ 14) (hm : ∀ j : Int, 4 ≤ j → j < k → snd2 j ≠ two) (hk : snd2 k = two) : sndL two kinds11 = some (k, 0, 0, 0, false, false) := by
  have a4 := hm 4 (by omega); have a5 := hm 5 (by omega); have a6 := hm 6 (by omega); have a7 := hm 7 (by omega)
  have a8 := hm 8 (by omega); have a9 := hm 9 (by omega); have a10 := hm 10 (by omega); have a11 := hm 11 (by omega); have a12 := hm 12 (by omega); have a13 := hm 13 (by omega)
  rcases kind_cases h0 h15 with rfl | rfl | rfl | rfl | rfl | rfl | rfl | rfl | rfl | rfl | rfl
  all_goals simp_all [sndL, kinds11]
theorem sndL_none {two : Int} (hm : ∀ j : Int, 4 ≤ j → j < 15 → snd2 j ≠ two) : sndL two kinds11 = none := by
  have a4 := hm 4 (by omega) (by omega); have a5 := hm 5 (by omega) (by omega); have a6 := hm 6 (by omega) (by omega); have a7 := hm 7 (by omega) (by omega)
  have a8 := hm 8 (by omega) (by omega); have a9 := hm 9 (by omega) (by omega); have a10 := hm 10 (by omega) (by omega); have a11 := hm 11 (by omega) (by omega); have a12 := hm 12 (by omega) (by omega); have a13 := hm 13 (by omega) (by omega); have a14 := hm 14 (by omega) (by omega)
  simp_all [sndL, kinds11]
set_option maxHeartbeats 2000000 in
theorem get_snd (two : Int) (h2 : 0 ≤ two) (h3 : two ≤ 255) (hp : preL 20 two rows15 = none) (w : World) :
    Calls Try.prog 16 #[.int .u8 20, .int .u8 two] w fun e w' => e = .returned (getV (sndL two kinds11)) ∧ Below w.heap.size w w' := by
  have H := Lib.hid hp; clear hp
  go_enter Try.func16, Try.ntmps16
  go_wp2_with fail
  refine (preamble_any _ two (by omega) h2 h3 _).mono ?_
  rintro e w1 ⟨rfl, hb⟩
  rw [H.out, getV_none]
  have R1 := (Row6.new w (.int .u8 0) (.int .i64 0) (.int .i64 0) (.int .u8 0) (.bool false) (.bool false) 26).step hb
  have hB1 := below_alloc _ hb
  clear hb
  go_upto_region 2 with fail
  obtain ⟨W2, hW2, hb2⟩ := newWorld w1 (.cells #[.int .u8 0, .int .i64 0, .int .i64 0, .int .u8 0, .bool false, .bool false] 26)
  rw [← hW2]
  have R2 := R1.step hb2
  have hB2 := below_then hB1 hb2
  clear hW2 hb2 R1 hB1
  go_wp2_with fail
  go_loop [8] (fun i => ∃ k : Int, 4 ≤ k ∧ k ≤ 15 ∧ i = .int .u8 k ∧ Hid (∀ j : Int, 4 ≤ j → j < k → snd2 j ≠ two)) (fun i => (15 - intOf i).toNat)
  case atStart => exact ⟨4, by omega, by omega, rfl, fun j a b => by omega⟩
  case round =>
    obtain ⟨k, hk0, hk15, rfl, hm⟩ := hrel
    by_cases hlt : k ≤ 14
    · by_cases hn : snd2 k = two
      · have he : getV (sndL two kinds11) = .tuple #[.agg #[.int .u8 k, .int .i64 0, .int .i64 0, .int .u8 0, .bool false, .bool false], .bool true] := by
          rw [sndL_hit hk0 hlt hm.out hn]; rfl
        have He := Lib.hid he; clear he
        have hd : (snd2 k == two) = true := by simp [hn]
        clear hn
        obtain ⟨p0, p1, p2, p3, p4, p5, pf, pl⟩ := R2.out
        go_wp2_with (go_at_call 26; refine (second_any _ hk0 hlt _).mono ?_; rintro e w2 ⟨rfl, rfl⟩)
        refine bodyPost_ret (v := .tuple #[.agg #[.int .u8 k, .int .i64 0, .int .i64 0, .int .u8 0, .bool false, .bool false], .bool true]) (by simp [results, Try.results16, go_sem, p0, p1, p2, p3, p4, p5]) rfl ⟨by rw [He.out], ?_⟩
        iterate 6 refine Below.setCell ?_ (by exact Nat.le_refl _) _
        exact hB2
      · have hd : (snd2 k == two) = false := by simpa using hn
        have hno := Lib.hid hn; clear hn
        go_wp2_with (go_at_call 26; refine (second_any _ hk0 hlt _).mono ?_; rintro e w2 ⟨rfl, rfl⟩)
        go_round
        case rel => exact ⟨k + 1, by omega, by omega, by go_num, fun j a b => by
          by_cases hj : j = k
          · rw [hj]; exact hno.out
          · exact hm.out j a (by omega)⟩
        case measure => simp [intOf]; omega
    · obtain rfl : k = 15 := by omega
      have he : getV (sndL two kinds11) = .tuple #[.agg #[.int .u8 0, .int .i64 0, .int .i64 0, .int .u8 0, .bool false, .bool false], .bool false] := by
        rw [sndL_none hm.out]; rfl
      have He := Lib.hid he; clear he
      obtain ⟨p0, p1, p2, p3, p4, p5, pf, pl⟩ := R2.out
      go_wp2_with fail
      refine bodyPost_ret (v := .tuple #[.agg #[.int .u8 0, .int .i64 0, .int .i64 0, .int .u8 0, .bool false, .bool false], .bool false]) (by simp [results, Try.results16, go_sem, p0, p1, p2, p3, p4, p5]) rfl ⟨by rw [He.out], ?_⟩
      iterate 6 refine Below.setCell ?_ (by exact Nat.le_refl _) _
      exact hB2
theorem get_any (one two : Int) (h1 : 0 ≤ one) (h2 : 0 ≤ two) (h3 : two ≤ 255) (w : World) :
    Calls Try.prog 16 #[.int .u8 one, .int .u8 two] w fun e w' => e = .returned (getV (Pl.get one two)) ∧ Below w.heap.size w w' := by
  cases hp : preL one two rows15 with
  | some x =>
    obtain ⟨k, r, l, c, i, u⟩ := x
    have e : Pl.get one two = some (k, r, l, c, i, u) := by simp [Pl.get, hp]
    rw [e]; exact get_pre one two k r l c i u h1 h2 h3 hp w
  | none =>
    unfold Pl.get
    rw [hp]
    simp only []
    by_cases a1 : one = 17 ∧ 32 ≤ two ∧ two ≤ 47
    · rw [if_pos a1]; exact get_mid one two h1 h2 h3 a1.1 a1.2.1 a1.2.2 hp w
    · rw [if_neg a1]
      by_cases a2 : one = 23 ∧ 33 ≤ two ∧ two ≤ 35
      · rw [if_pos a2]; exact get_tab one two h1 h2 h3 a2.1 a2.2.1 a2.2.2 hp w
      · rw [if_neg a2]
        by_cases a3 : one = 20
        · rw [if_pos a3]; subst a3; exact get_snd two h2 h3 hp w
        · rw [if_neg a3]; exact get_zero one two h1 h2 h3 (by omega) hp w
end Go.Proofs.Ytjghleeobdbkgaa
