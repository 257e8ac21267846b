import Derived.Test.YtheemefggkcfbaaDoorR26
namespace Go.Proofs.YtheemefggkcfbaaDoor
open Go Go.Lib Go.RowKit Go.Shelf
/-! ### a number out of range; speakers that are none -/
abbrev nilp : Value := .pointer none
set_option maxHeartbeats 4000000 in
set_option maxRecDepth 100000 in
theorem fix_range_any (w : World) (b : Nat) (n : Int) (t : ByteArray) (hn : n < 1 ∨ 8 < n) :
    Calls Tryd.prog 42 #[ptr b, .int .i64 n, .string t] w fun e w' => e = .returned (.int .i64 2) ∧ w' = w := by
  rcases Int.lt_or_le n 1 with h1 | h1
  · have hd : (decide (n < 1)) = true := by simpa using h1
    go_enter Tryd.func42, Tryd.ntmps42
    go_wp2_with fail
    go_ret
    exact ⟨rfl, rfl⟩
  · have h2 : (8 : Int) < n := by omega
    have h3 : ¬ n < 1 := by omega
    have hd : (decide (n < 1)) = false := by simpa using h1
    go_enter Tryd.func42, Tryd.ntmps42
    go_wp2_with fail
    go_ret
    exact ⟨rfl, rfl⟩
section
variable (w : World)
set_option maxHeartbeats 4000000 in
set_option maxRecDepth 100000 in
theorem nil_say (t : ByteArray) : Calls Tryd.prog 38 #[nilp, .string t] w fun e w' => e = .returned (.int .i64 1) ∧ w' = w := by
  go_enter Tryd.func38, Tryd.ntmps38
  go_wp2_with fail
  go_ret
  exact ⟨rfl, rfl⟩
set_option maxHeartbeats 4000000 in
set_option maxRecDepth 100000 in
theorem nil_fix (n : Int) (t : ByteArray) : Calls Tryd.prog 42 #[nilp, .int .i64 n, .string t] w fun e w' => e = .returned (.int .i64 1) ∧ w' = w := by
  go_enter Tryd.func42, Tryd.ntmps42
  go_wp2_with fail
  go_ret
  exact ⟨rfl, rfl⟩
set_option maxHeartbeats 4000000 in
set_option maxRecDepth 100000 in
theorem nil_break : Calls Tryd.prog 52 #[nilp] w fun e w' => e = .returned (.int .i64 1) ∧ w' = w := by
  go_enter Tryd.func52, Tryd.ntmps52
  go_wp2_with fail
  go_ret
  exact ⟨rfl, rfl⟩
set_option maxHeartbeats 4000000 in
set_option maxRecDepth 100000 in
theorem nil_flush : Calls Tryd.prog 53 #[nilp] w fun e w' => e = .returned (.int .i64 1) ∧ w' = w := by
  go_enter Tryd.func53, Tryd.ntmps53
  go_wp2_with fail
  go_ret
  exact ⟨rfl, rfl⟩
set_option maxHeartbeats 4000000 in
set_option maxRecDepth 100000 in
theorem nil_open : Calls Tryd.prog 39 #[nilp] w fun e w' => e = .returned (.slice none 0 0) ∧ w' = w := by
  go_enter Tryd.func39, Tryd.ntmps39
  go_wp2_with fail
  go_ret
  exact ⟨rfl, rfl⟩
set_option maxHeartbeats 4000000 in
set_option maxRecDepth 100000 in
theorem nil_said : Calls Tryd.prog 43 #[nilp] w fun e w' => e = .returned (.slice none 0 0) ∧ w' = w := by
  go_enter Tryd.func43, Tryd.ntmps43
  go_wp2_with fail
  go_ret
  exact ⟨rfl, rfl⟩
set_option maxHeartbeats 4000000 in
set_option maxRecDepth 100000 in
theorem nil_clone : Calls Tryd.prog 49 #[nilp] w fun e w' => e = .returned nilp ∧ w' = w := by
  go_enter Tryd.func49, Tryd.ntmps49
  go_wp2_with fail
  go_ret
  exact ⟨rfl, rfl⟩
set_option maxHeartbeats 4000000 in
set_option maxRecDepth 100000 in
theorem nil_peek : Calls Tryd.prog 51 #[nilp] w fun e w' => e = .returned (.tuple #[spkV default, .bool false]) ∧ Below w.heap.size w w' := by
  go_enter Tryd.func51, Tryd.ntmps51
  go_wp2_with fail
  go_quiet (fail)
  go_wp2_with fail
  go_returns
  exact ⟨rfl, (((below_dn (below1 _ (Nat.le_refl _)) _).setCell (Nat.le_refl _) _).setCell (Nat.le_refl _) _).setCell (Nat.le_refl _) _⟩
set_option maxHeartbeats 4000000 in
set_option maxRecDepth 100000 in
theorem nil_take : Calls Tryd.prog 41 #[nilp] w fun e w' => e = .returned (.tuple #[spkV default, .bool false]) ∧ Below w.heap.size w w' := by
  go_enter Tryd.func41, Tryd.ntmps41
  go_wp2_with fail
  refine (nil_peek _).mono ?_
  rintro e w1 ⟨rfl, hb1⟩
  have hb := (below1 (B := w.heap.size) (w := w) (.cells #[.string ⟨#[]⟩, .bool false, .bool false] 59) (Nat.le_refl _)).trans (hb1.mono (by simp))
  have hR := blk_stay (heap_alloc_new w (.cells #[.string ⟨#[]⟩, .bool false, .bool false] 59)) hb1
  have hlt1 : w.heap.size < w1.heap.size := heap_lt hR
  obtain ⟨r0, r1, r2, rf, rlt⟩ := blk3 hR
  clear hb1
  rw [spkV_ba]
  go_wp2_with fail
  refine post_as (fun W => Below w.heap.size w W ∧ W.heap[w.heap.size]? = some (.cells #[.string ⟨#[]⟩, .bool false, .bool false] 59 (0, 0))) ⟨(((hb.setCell (Nat.le_refl _) _).setCell (Nat.le_refl _) _).setCell (Nat.le_refl _) _).alloc (by simp; omega) _, blk_stay (set3 hR) (below1 _ (Nat.le_refl _))⟩ (fun W ⟨hbW, hRW⟩ => ?_)
  obtain ⟨s0, s1, s2, _, _⟩ := blk3 hRW
  refine bodyPost_ret (v := .tuple #[spkV default, .bool false]) (by simp [results, Tryd.results41, go_sem, s0, s1, s2]; rfl) rfl ?_
  exact ⟨rfl, hbW⟩
end
end Go.Proofs.YtheemefggkcfbaaDoor
