import Derived.Test.YtheemefggkcfbaaDoorR17
namespace Go.Proofs.YtheemefggkcfbaaDoor
open Go Go.Lib Go.RowKit Go.Shelf
abbrev ptr (b : Nat) : Value := .pointer (some ⟨b, 0, none⟩)
/-- What always holds of a speaker. -/
structure Sp.ok (S : Sp) : Prop where
  mark : S.mark = true → 0 < S.opn.length
  free : S.free ≤ S.opn.length
  tkn : S.tkn.length ≤ 8
  hold : S.hold ≤ 16
  len : S.opn.length ≤ 400
def Sp.count (S : Sp) : Nat := if S.mark = true then S.opn.length - 1 else S.opn.length
set_option maxHeartbeats 4000000 in
set_option maxRecDepth 100000 in
theorem counting_any (w : World) (O : Nat → Prop) (b : Nat) (S : Sp) (h : SpAt w O b S) (hS : S.ok) :
    Calls Tryd.prog 78 #[ptr b] w fun e w' => e = .returned (.int .i64 (S.count : Int)) ∧ w' = w := by
  obtain ⟨vo, vt, h1, h2, h3, h4, h5, h6⟩ := h
  obtain ⟨c0, c1, c2, c3, c4, c5, hf, hlt⟩ := blk_facts h1
  obtain ⟨a, cp, rfl⟩ := own_len h2
  have hz : Hid ((S.count : Int) = if S.mark = true then (S.opn.length : Int) - 1 else (S.opn.length : Int)) := Lib.hid (by
    unfold Sp.count
    by_cases hm : S.mark = true
    · rw [if_pos hm, if_pos hm]; have := hS.mark hm; omega
    · rw [if_neg hm, if_neg hm])
  have hlen := hS.len
  generalize S.count = N at *
  generalize S.mark = M at *
  cases M
  · go_enter Tryd.func78, Tryd.ntmps78
    go_wp2_with fail
    go_ret
    exact ⟨ret_int hz.out.symm, rfl⟩
  · go_enter Tryd.func78, Tryd.ntmps78
    go_wp2_with fail
    go_ret
    exact ⟨ret_int hz.out.symm, rfl⟩
set_option maxHeartbeats 4000000 in
set_option maxRecDepth 100000 in
theorem break_any (w : World) (O : Nat → Prop) (b : Nat) (S : Sp) (h : SpAt w O b S) :
    Calls Tryd.prog 52 #[ptr b] w fun e w' => e = .returned (.int .i64 0) ∧ SpAt w' O b { S with brk := true } ∧ Within O w w' ∧ w'.heap.size = w.heap.size := by
  obtain ⟨vo, vt, h1, h2, h3, h4, h5, h6⟩ := h
  obtain ⟨c0, c1, c2, c3, c4, c5, hf, hlt⟩ := blk_facts h1
  go_enter Tryd.func52, Tryd.ntmps52
  go_wp2_with fail
  go_ret
  exact ⟨rfl, ⟨vo, vt, blk_set h1, row_far (by decide) h1 h2, row_far (by decide) h1 h3, h4, h5, h6⟩, (Within.refl _ _).set h4, by simp⟩
set_option maxHeartbeats 4000000 in
set_option maxRecDepth 100000 in
theorem flush_any (w : World) (O : Nat → Prop) (b : Nat) (S : Sp) (h : SpAt w O b S) :
    Calls Tryd.prog 53 #[ptr b] w fun e w' => e = .returned (.int .i64 0) ∧ SpAt w' O b { S with free := S.opn.length } ∧ Within O w w' ∧ w'.heap.size = w.heap.size := by
  obtain ⟨vo, vt, h1, h2, h3, h4, h5, h6⟩ := h
  obtain ⟨c0, c1, c2, c3, c4, c5, hf, hlt⟩ := blk_facts h1
  obtain ⟨a, cp, rfl⟩ := own_len h2
  go_enter Tryd.func53, Tryd.ntmps53
  go_wp2_with fail
  go_ret
  exact ⟨rfl, ⟨_, vt, blk_set h1, row_far (by decide) h1 h2, row_far (by decide) h1 h3, h4, h5, h6⟩, (Within.refl _ _).set h4, by simp⟩
def Sp.new (h : Nat) : Sp := ⟨h, [], false, 0, [], false⟩
set_option maxHeartbeats 4000000 in
set_option maxRecDepth 100000 in
theorem new_any (w : World) (n : Nat) (hn : n ≤ 16) :
    Calls Tryd.prog 37 #[.int .i64 n] w fun e w' => ∃ b, e = .returned (.tuple #[ptr b, .int .i64 0]) ∧ SpAt w' (fun k => w.heap.size ≤ k ∧ k < w'.heap.size) b (Sp.new n) ∧ Below w.heap.size w w' := by
  have h1 : ¬ (n : Int) < 0 := by omega
  have h2 : ¬ (16 : Int) < n := by omega
  go_enter Tryd.func37, Tryd.ntmps37
  go_wp2_with fail
  go_ret2
  exact ⟨_, rfl, ⟨.slice none 0 0, .slice none 0 0, heap_alloc_new w _, World.ownsRow_nil _ _ _ _, World.ownsRow_nil _ _ _ _, ⟨Nat.le_refl _, by simp⟩, by rintro k ⟨⟩, by rintro k ⟨⟩⟩, below1 _ (Nat.le_refl _)⟩
theorem new_bad (w : World) (n : Int) (hn : n < 0 ∨ 16 < n) :
    Calls Tryd.prog 37 #[.int .i64 n] w fun e w' => e = .returned (.tuple #[.pointer none, .int .i64 2]) ∧ w' = w := by
  rcases Int.lt_or_le n 0 with h1 | h1
  · go_enter Tryd.func37, Tryd.ntmps37
    go_wp2_with fail
    go_ret2
    exact ⟨rfl, rfl⟩
  · have h2 : (16 : Int) < n := by omega
    have h3 : ¬ n < 0 := by omega
    go_enter Tryd.func37, Tryd.ntmps37
    go_wp2_with fail
    go_ret2
    exact ⟨rfl, rfl⟩
end Go.Proofs.YtheemefggkcfbaaDoor
