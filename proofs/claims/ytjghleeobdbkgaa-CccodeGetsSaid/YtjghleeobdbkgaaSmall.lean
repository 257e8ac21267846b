/- The small functions of the codes: styles, flags and numbers, walked. -/
import Derived.Test.YtjghleeobdbkgaaRows
import Derived.Test.YtjghleeobdbkgaaPlain
import Derived.WalkKit
import Derived.WalkSpells
import Derived.WalkLawsBesides
import Derived.BigQuiet
import Derived.Deep.QuietTactic
import Derived.Handy
import Derived.Lib.Hide
import Derived.Deep.DeepCutAuto
import Derived.Deep.RegionHeld3
namespace Go.Proofs.Ytjghleeobdbkgaa
open Go.RowKit Pl
theorem ret_bool {a b : Bool} (h : a = b) : Ending.returned (.bool a) = .returned (.bool b) := by rw [h]
theorem ret_int {k : IntKind} {a b : Int} (h : a = b) : Ending.returned (.int k a) = .returned (.int k b) := by rw [h]
theorem below1 {B : Nat} {w : World} (o : Obj) (h : B ≤ w.heap.size) : Below B w (w.alloc o) := (Below.refl _ _).alloc h _

set_option maxHeartbeats 400000 in
theorem quiet_same {P : Program} {f : FuncId} {args : Array Value} {w : World} {n : Nat} {v : Value}
    (h : Calls P f args (w.drewN n) fun e w' => e = .returned v ∧ w.drewN n = w') : Calls P f args (w.drewN n) fun e w'' => e = .returned v ∧ ∃ m, w'' = w.drewN m :=
  h.mono fun _ _ ⟨he, hm⟩ => ⟨he, n, hm.symm⟩
theorem below_drewN {B : Nat} {a w : World} (n : Nat) (h : Below B a w) : Below B a (w.drewN n) := ⟨h.os, h.tape, h.output, h.size, h.block⟩

set_option maxHeartbeats 400000 in
theorem style_any (c : Int) (i u : Bool) (w : World) :
    Calls Try.prog 10 #[.agg #[.int .u8 c, .bool i, .bool u]] w fun e w' => e = .returned (.bool (sty c i)) ∧ Below w.heap.size w w' := by
  cases i
  all_goals
    go_enter Try.func10, Try.ntmps10
    go_wp2
    go_ret
    exact ⟨rfl, below1 _ (Nat.le_refl _)⟩


set_option maxHeartbeats 400000 in
theorem rstyle_any (c : Int) (i u : Bool) (w : World) :
    Calls Try.prog 11 #[.agg #[.int .u8 c, .bool i, .bool u]] w fun e w' => e = .returned (.bool (sty c i)) ∧ Below w.heap.size w w' := by
  by_cases h : c ≤ 6
  · have hd : decide (c ≤ 6) = true := by simpa using h
    cases i
    all_goals
      go_enter Try.func11, Try.ntmps11
      go_wp2
      go_ret
      exact ⟨ret_bool (by simp [sty, h]), below1 _ (Nat.le_refl _)⟩
  · have hd : decide (c ≤ 6) = false := by simpa using h
    cases i
    all_goals
      go_enter Try.func11, Try.ntmps11
      go_wp2
      go_ret
      exact ⟨ret_bool (by simp [sty]; omega), below1 _ (Nat.le_refl _)⟩

set_option maxHeartbeats 400000 in
theorem plain_any (c : Int) (i u : Bool) (w : World) :
    Calls Try.prog 22 #[.agg #[.int .u8 c, .bool i, .bool u]] w fun e w' => e = .returned (.bool (pln c i)) ∧ Below w.heap.size w w' := by
  by_cases h : c = 0
  · subst h
    go_enter Try.func22, Try.ntmps22
    go_wp2
    go_ret
    exact ⟨ret_bool (by simp [pln]), below1 _ (Nat.le_refl _)⟩
  · have hd : (c == 0) = false := by simpa using h
    go_enter Try.func22, Try.ntmps22
    go_wp2
    go_ret
    exact ⟨ret_bool (by simp [pln, h]), below1 _ (Nat.le_refl _)⟩

set_option maxHeartbeats 400000 in
theorem flag_any (b : Bool) (w : World) :
    Calls Try.prog 25 #[.bool b] w fun e w' => e = .returned (.int .u8 (fl b)) ∧ w = w' := by
  cases b
  all_goals
    go_enter Try.func25, Try.ntmps25
    go_wp2
    go_ret
    exact ⟨rfl, rfl⟩
theorem fl_bd (b : Bool) : 0 ≤ fl b ∧ fl b ≤ 1 := by cases b <;> decide

set_option maxHeartbeats 400000 in
theorem number_any (c : Int) (i u : Bool) (hc : 0 ≤ c) (h : sty c i = true) (w : World) :
    Calls Try.prog 24 #[.agg #[.int .u8 c, .bool i, .bool u]] w fun e w' => e = .returned (.int .u8 (num c i u)) ∧ Below w.heap.size w w' := by
  have hf := fl_bd u
  cases i
  · have h6 : c ≤ 6 := by simpa [sty] using h
    clear h
    go_enter Try.func24, Try.ntmps24
    go_wp2
    go_quiet ((go_at_call 25; exact quiet_same (flag_any _ _)))
    go_wp2
    go_ret
    exact ⟨rfl, below_drewN _ (below1 _ (Nat.le_refl _))⟩
  · have h6 : c = 0 := by simpa [sty] using h
    subst h6
    clear h
    go_enter Try.func24, Try.ntmps24
    go_wp2_with (go_at_call 25; refine (flag_any _ _).mono ?_; rintro e w' ⟨rfl, rfl⟩)
    go_ret
    exact ⟨rfl, below1 _ (Nat.le_refl _)⟩
theorem bcell {W w1 : World} (hb : Below W.heap.size W w1) : (∀ b o, b < W.heap.size → w1.cell? ⟨b, o, none⟩ = W.cell? ⟨b, o, none⟩) ∧ (∀ b o, b < W.heap.size → w1.frozen? ⟨b, o, none⟩ = W.frozen? ⟨b, o, none⟩) :=
  ⟨fun b o h => hb.cell (p := ⟨b, o, none⟩) h, fun b o h => hb.frozen (p := ⟨b, o, none⟩) h⟩
theorem below_then {w w1 w2 : World} (h : Below w.heap.size w w1) (h2 : Below w1.heap.size w1 w2) : Below w.heap.size w w2 := h.trans (h2.mono h.size)
theorem below_alloc {w w1 : World} (o : Obj) (h : Below (w.alloc o).heap.size (w.alloc o) w1) : Below w.heap.size w w1 :=
  (below1 o (Nat.le_refl _)).trans (h.mono (by simp))

end Go.Proofs.Ytjghleeobdbkgaa
