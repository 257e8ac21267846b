import Derived.Test.YtgiaohccebolpaaGreatDoorQ1
import Derived.Laws.StructEq
import Derived.Laws.AppendOwnNone
import Derived.Laws.AppendOwn
import Derived.Maps.AppendAt
import Derived.RegionTactic
import Derived.Deep.CutBlock
namespace Go.Proofs.YtgiaohccebolpaaGreatDoor
open Go Go.RowKit
open Go.Lib hiding intOf
set_option linter.unusedVariables false
def ba (l : List UInt8) : ByteArray := ⟨l.toArray⟩
/-! ### spans and kinds -/
def okSpan (a b : Int) : Bool := decide (0 ≤ a) && (decide (a < b) && decide (b ≤ 5184000))
theorem okSpan_eq (a b : Int) : okSpan a b = decide (0 ≤ a ∧ a < b ∧ b ≤ 5184000) := by
  unfold okSpan; simp
set_option maxHeartbeats 4000000 in
set_option maxRecDepth 100000 in
theorem spans_any (a b : Int) (w : World) : Calls Tryz.prog 66 #[.agg #[.int .i64 a, .int .i64 b]] w fun e w' => e = .returned (.bool (okSpan a b)) ∧ Below w.heap.size w w' := by
  have hd := okSpan_eq a b
  generalize okSpan a b = Z at *
  have HD := Lib.hid hd
  clear hd
  by_cases h1 : 0 ≤ a
  · by_cases h2 : a < b
    · by_cases h3 : b ≤ 5184000
      all_goals
        go_enter Tryz.func66, Tryz.ntmps66
        go_wp2
        go_ret
        exact ⟨ret_bool (by rw [HD.out]; first | rfl | exact (decide_eq_true (by omega)).symm | exact (decide_eq_false (by omega)).symm), below1 _ (Nat.le_refl _)⟩
    · go_enter Tryz.func66, Tryz.ntmps66
      go_wp2
      go_ret
      exact ⟨ret_bool (by rw [HD.out]; first | rfl | exact (decide_eq_true (by omega)).symm | exact (decide_eq_false (by omega)).symm), below1 _ (Nat.le_refl _)⟩
  · go_enter Tryz.func66, Tryz.ntmps66
    go_wp2
    go_ret
    exact ⟨ret_bool (by rw [HD.out]; first | rfl | exact (decide_eq_true (by omega)).symm | exact (decide_eq_false (by omega)).symm), below1 _ (Nat.le_refl _)⟩
theorem kind_bad (k : Nat) (hk : k < 256) (h : k < 1 ∨ 4 < k) (w : World) : Calls Tryz.prog 67 #[.int .u8 (k : Int)] w fun e w' => e = .returned (.string ⟨#[]⟩) ∧ w = w' := by
  rcases h with h | h
  · have h1 : (k : Int) < 1 := by omega
    go_enter Tryz.func67, Tryz.ntmps67
    go_wp2
    go_ret
    exact ⟨rfl, rfl⟩
  · have h1 : ¬ (k : Int) < 1 := by omega
    have h2 : (4 : Int) < (k : Int) := by omega
    go_enter Tryz.func67, Tryz.ntmps67
    go_wp2
    go_ret
    exact ⟨rfl, rfl⟩
/-- A kind's name: some text that is not empty. -/
def SomeText (e : Ending) : Prop := ∃ s : ByteArray, e = .returned (.string s) ∧ s.toList.isEmpty = false
set_option maxHeartbeats 4000000 in
set_option maxRecDepth 100000 in
theorem kind_good (k : Nat) (h1 : 1 ≤ k) (h : k ≤ 4) (w : World) : Calls Tryz.prog 67 #[.int .u8 (k : Int)] w fun e w' => SomeText e ∧ Below w.heap.size w w' := by
  have hk : k = 1 ∨ k = 2 ∨ k = 3 ∨ k = 4 := by omega
  rcases hk with rfl | rfl | rfl | rfl
  all_goals
    go_enter Tryz.func67, Tryz.ntmps67
    go_wp2
    go_ret
    exact ⟨⟨_, rfl, by rw [toList_data]; rfl⟩, below1 _ (Nat.le_refl _)⟩
/-! ### regions -/
def frm (n lo hi : Int) : Bool := decide (lo ≤ n) && decide (n ≤ hi)
theorem frm_eq (n lo hi : Int) : frm n lo hi = decide (lo ≤ n ∧ n ≤ hi) := by unfold frm; simp
theorem frm_true {n lo hi : Int} (h : frm n lo hi = true) : lo ≤ n ∧ n ≤ hi := by rw [frm_eq] at h; simpa using h
set_option maxHeartbeats 4000000 in
theorem from_any (n lo hi : Int) (w : World) : Calls Tryz.prog 108 #[.int .i64 n, .int .i64 lo, .int .i64 hi] w fun e w' => e = .returned (.bool (frm n lo hi)) ∧ w = w' := by
  have hd := frm_eq n lo hi
  generalize frm n lo hi = Z at *
  have HD := Lib.hid hd
  clear hd
  by_cases h1 : lo ≤ n
  · by_cases h2 : n ≤ hi
    all_goals
      go_enter Tryz.func108, Tryz.ntmps108
      go_wp2
      go_ret
      exact ⟨ret_bool (by rw [HD.out]; first | rfl | exact (decide_eq_true (by omega)).symm | exact (decide_eq_false (by omega)).symm), rfl⟩
  · go_enter Tryz.func108, Tryz.ntmps108
    go_wp2
    go_ret
    exact ⟨ret_bool (by rw [HD.out]; first | rfl | exact (decide_eq_true (by omega)).symm | exact (decide_eq_false (by omega)).symm), rfl⟩
structure Rg where
  nm : ByteArray
  top : Int
  ht : Int
  lf : Int
  wd : Int
  al : Nat
  bot : Bool
def Rg.cells (r : Rg) : List Value := [.string r.nm, .int .i64 r.top, .int .i64 r.ht, .int .i64 r.lf, .int .i64 r.wd, .int .u8 (r.al : Int), .bool r.bot]
abbrev rgV (nm : ByteArray) (top ht lf wd : Int) (al : Nat) (bot : Bool) : Value := .agg #[.string nm, .int .i64 top, .int .i64 ht, .int .i64 lf, .int .i64 wd, .int .u8 (al : Int), .bool bot]
def Rg.v (r : Rg) : Value := rgV r.nm r.top r.ht r.lf r.wd r.al r.bot
structure Rg.ok (r : Rg) : Prop where
  nm : r.nm.size ≤ 1048576
  al : r.al < 256
def dflt : Rg := ⟨⟨#[]⟩, 11, 4, 0, 32, 2, true⟩
/-- What Check of a region answers. -/
def rgE (r : Rg) : Int :=
  if nameOk r.nm.data.toList = false then 5
  else if (frm r.top 0 14 && (frm r.ht 1 (15 - r.top) && (frm r.lf 0 31 && frm r.wd 1 (32 - r.lf)))) = false then 2
  else if frm r.al 1 3 = false then 3 else 0
set_option maxHeartbeats 4000000 in
set_option maxRecDepth 100000 in
theorem rcheck_any (r : Rg) (hr : r.ok) (w : World) : Calls Tryz.prog 79 #[r.v] w fun e w' => e = .returned (.int .i64 (rgE r)) ∧ Below w.heap.size w w' := by
  obtain ⟨nm, top, ht, lf, wd, al, bot⟩ := r
  obtain ⟨h1, h2⟩ := hr
  simp only at h1 h2
  have cN := fun w => name_any nm w (by omega)
  have hE : rgE ⟨nm, top, ht, lf, wd, al, bot⟩ = if nameOk nm.data.toList = false then 5
    else if (frm top 0 14 && (frm ht 1 (15 - top) && (frm lf 0 31 && frm wd 1 (32 - lf)))) = false then 2
    else if frm al 1 3 = false then 3 else 0 := rfl
  rw [hE]
  clear hE
  unfold Rg.v
  generalize nameOk nm.data.toList = N at *
  cases N
  · rw [if_pos rfl]
    go_enter Tryz.func79, Tryz.ntmps79
    go_wp2_with fail
    refine (cN _).mono ?_
    rintro e w1 ⟨rfl, rfl⟩
    go_wp2_with fail
    go_ret
    exact ⟨rfl, below1 _ (Nat.le_refl _)⟩
  rw [if_neg (by simp)]
  have c1 := fun w => from_any top 0 14 w
  have c2 := fun w => from_any ht 1 (15 - top) w
  have c3 := fun w => from_any lf 0 31 w
  have c4 := fun w => from_any wd 1 (32 - lf) w
  have b1 : frm top 0 14 = true → 0 ≤ top ∧ top ≤ 14 := fun h => frm_true h
  have b3 : frm lf 0 31 = true → 0 ≤ lf ∧ lf ≤ 31 := fun h => frm_true h
  generalize frm top 0 14 = F1 at *
  generalize frm ht 1 (15 - top) = F2 at *
  generalize frm lf 0 31 = F3 at *
  generalize frm wd 1 (32 - lf) = F4 at *
  have B1 := Lib.hid b1
  have B3 := Lib.hid b3
  clear b1 b3
  cases F1
  · rw [if_pos (show (false && (F2 && (F3 && F4))) = false from rfl)]
    clear c2 c3 c4
    go_enter Tryz.func79, Tryz.ntmps79
    go_wp2_with fail
    refine (cN _).mono ?_
    rintro e w1 ⟨rfl, rfl⟩
    go_wp2_with fail
    refine (c1 _).mono ?_
    rintro e w1 ⟨rfl, rfl⟩
    go_wp2_with fail
    go_ret
    exact ⟨rfl, below1 _ (Nat.le_refl _)⟩
  obtain ⟨t0, t1⟩ := B1.out rfl
  cases F2
  · rw [if_pos (show (true && (false && (F3 && F4))) = false from rfl)]
    clear c3 c4
    go_enter Tryz.func79, Tryz.ntmps79
    go_wp2_with fail
    refine (cN _).mono ?_
    rintro e w1 ⟨rfl, rfl⟩
    go_wp2_with fail
    refine (c1 _).mono ?_
    rintro e w1 ⟨rfl, rfl⟩
    go_wp2_with fail
    refine (c2 _).mono ?_
    rintro e w1 ⟨rfl, rfl⟩
    go_wp2_with fail
    go_ret
    exact ⟨rfl, below1 _ (Nat.le_refl _)⟩
  cases F3
  · rw [if_pos (show (true && (true && (false && F4))) = false from rfl)]
    clear c4
    go_enter Tryz.func79, Tryz.ntmps79
    go_wp2_with fail
    refine (cN _).mono ?_
    rintro e w1 ⟨rfl, rfl⟩
    go_wp2_with fail
    refine (c1 _).mono ?_
    rintro e w1 ⟨rfl, rfl⟩
    go_wp2_with fail
    refine (c2 _).mono ?_
    rintro e w1 ⟨rfl, rfl⟩
    go_wp2_with fail
    refine (c3 _).mono ?_
    rintro e w1 ⟨rfl, rfl⟩
    go_wp2_with fail
    go_ret
    exact ⟨rfl, below1 _ (Nat.le_refl _)⟩
  obtain ⟨t2, t3⟩ := B3.out rfl
  have hal := frm_eq (al : Int) 1 3
  generalize frm (al : Int) 1 3 = A at *
  have HAL := Lib.hid hal
  clear hal
  cases F4
  · rw [if_pos (show (true && (true && (true && false))) = false from rfl)]
    go_enter Tryz.func79, Tryz.ntmps79
    go_wp2_with fail
    refine (cN _).mono ?_
    rintro e w1 ⟨rfl, rfl⟩
    go_wp2_with fail
    refine (c1 _).mono ?_
    rintro e w1 ⟨rfl, rfl⟩
    go_wp2_with fail
    refine (c2 _).mono ?_
    rintro e w1 ⟨rfl, rfl⟩
    go_wp2_with fail
    refine (c3 _).mono ?_
    rintro e w1 ⟨rfl, rfl⟩
    go_wp2_with fail
    refine (c4 _).mono ?_
    rintro e w1 ⟨rfl, rfl⟩
    go_wp2_with fail
    go_ret
    exact ⟨rfl, below1 _ (Nat.le_refl _)⟩
  rw [if_neg (by simp)]
  by_cases a1 : al < 1
  · have a1z : (al : Int) < 1 := by omega
    have hA : A = false := by rw [HAL.out]; simp; omega
    rw [if_pos hA]
    clear hA HAL
    go_enter Tryz.func79, Tryz.ntmps79
    go_wp2_with fail
    refine (cN _).mono ?_
    rintro e w1 ⟨rfl, rfl⟩
    go_wp2_with fail
    refine (c1 _).mono ?_
    rintro e w1 ⟨rfl, rfl⟩
    go_wp2_with fail
    refine (c2 _).mono ?_
    rintro e w1 ⟨rfl, rfl⟩
    go_wp2_with fail
    refine (c3 _).mono ?_
    rintro e w1 ⟨rfl, rfl⟩
    go_wp2_with fail
    refine (c4 _).mono ?_
    rintro e w1 ⟨rfl, rfl⟩
    go_wp2_with fail
    go_ret
    exact ⟨rfl, below1 _ (Nat.le_refl _)⟩
  have a1z : ¬ (al : Int) < 1 := by omega
  by_cases a2 : 3 < al
  · have a2z : (3 : Int) < (al : Int) := by omega
    have hA : A = false := by rw [HAL.out]; simp; omega
    rw [if_pos hA]
    clear hA HAL
    go_enter Tryz.func79, Tryz.ntmps79
    go_wp2_with fail
    refine (cN _).mono ?_
    rintro e w1 ⟨rfl, rfl⟩
    go_wp2_with fail
    refine (c1 _).mono ?_
    rintro e w1 ⟨rfl, rfl⟩
    go_wp2_with fail
    refine (c2 _).mono ?_
    rintro e w1 ⟨rfl, rfl⟩
    go_wp2_with fail
    refine (c3 _).mono ?_
    rintro e w1 ⟨rfl, rfl⟩
    go_wp2_with fail
    refine (c4 _).mono ?_
    rintro e w1 ⟨rfl, rfl⟩
    go_wp2_with fail
    go_ret
    exact ⟨rfl, below1 _ (Nat.le_refl _)⟩
  · have a2z : ¬ (3 : Int) < (al : Int) := by omega
    have hA : A = true := by rw [HAL.out]; simp; omega
    rw [if_neg (by simp [hA])]
    clear hA HAL
    go_enter Tryz.func79, Tryz.ntmps79
    go_wp2_with fail
    refine (cN _).mono ?_
    rintro e w1 ⟨rfl, rfl⟩
    go_wp2_with fail
    refine (c1 _).mono ?_
    rintro e w1 ⟨rfl, rfl⟩
    go_wp2_with fail
    refine (c2 _).mono ?_
    rintro e w1 ⟨rfl, rfl⟩
    go_wp2_with fail
    refine (c3 _).mono ?_
    rintro e w1 ⟨rfl, rfl⟩
    go_wp2_with fail
    refine (c4 _).mono ?_
    rintro e w1 ⟨rfl, rfl⟩
    go_wp2_with fail
    go_ret
    exact ⟨rfl, below1 _ (Nat.le_refl _)⟩
end Go.Proofs.YtgiaohccebolpaaGreatDoor
namespace Go.Proofs.YtgiaohccebolpaaGreatDoor
open Go Go.RowKit
open Go.Lib hiding intOf
set_option linter.unusedVariables false
/-! ### structs that are compared -/
theorem f109 : Tryz.prog.underlying 109 = some (.struct (Tryz.prog.fieldsOf 109)) := by kernel_rfl
theorem f59 : Tryz.prog.underlying 59 = some (.struct (Tryz.prog.fieldsOf 59)) := by kernel_rfl
theorem f56 : Tryz.prog.underlying 56 = some (.struct (Tryz.prog.fieldsOf 56)) := by kernel_rfl
theorem f51 : Tryz.prog.underlying 51 = some (.struct (Tryz.prog.fieldsOf 51)) := by kernel_rfl
theorem f111 : Tryz.prog.underlying 111 = some (.struct (Tryz.prog.fieldsOf 111)) := by kernel_rfl
theorem in109 (a c : Int) (b1 b2 d1 d2 : Bool) (d : Nat) (w : World) : (Op.equalIn (d + 2) 109 (.agg #[.int .u8 a, .bool b1, .bool b2]) (.agg #[.int .u8 c, .bool d1, .bool d2])).run Tryz.prog w = .ok (a == c && (b1 == d1 && b2 == d2)) w := by
  have u1 := Tryz.underlying107
  have a1 := Tryz.isAgg107
  have z1 := Tryz.sizeOf107
  have u2 := Tryz.underlying4
  have a2 := Tryz.isAgg4
  have z2 := Tryz.sizeOf4
  rw [run_equalIn_agg w (d + 1) 109 _ _ f109 (by kernel_rfl)]
  simp only [Program.fieldsOf, Tryz.underlying109]
  go_simp
  by_cases h1 : a = c <;> by_cases h2 : b1 = d1 <;> by_cases h3 : b2 = d2 <;> simp [h1, h2, h3]
theorem in59 (a b c e : Int) (d : Nat) (w : World) : (Op.equalIn (d + 2) 59 (.agg #[.int .i64 a, .int .i64 b]) (.agg #[.int .i64 c, .int .i64 e])).run Tryz.prog w = .ok (a == c && b == e) w := by
  have u1 := Tryz.underlying2
  have a1 := Tryz.isAgg2
  have z1 := Tryz.sizeOf2
  rw [run_equalIn_agg w (d + 1) 59 _ _ f59 (by kernel_rfl)]
  simp only [Program.fieldsOf, Tryz.underlying59]
  go_simp
  by_cases h1 : a = c <;> by_cases h2 : b = e <;> simp [h1, h2]
theorem in56 (n n' : ByteArray) (a b c d a' b' c' d' : Int) (e e' : Int) (x x' : Bool) (dd : Nat) (w : World) :
    (Op.equalIn (dd + 2) 56 (.agg #[.string n, .int .i64 a, .int .i64 b, .int .i64 c, .int .i64 d, .int .u8 e, .bool x]) (.agg #[.string n', .int .i64 a', .int .i64 b', .int .i64 c', .int .i64 d', .int .u8 e', .bool x'])).run Tryz.prog w =
      .ok (n.toList == n'.toList && (a == a' && (b == b' && (c == c' && (d == d' && (e == e' && x == x')))))) w := by
  have u1 := Tryz.underlying9
  have a1 := Tryz.isAgg9
  have z1 := Tryz.sizeOf9
  have u2 := Tryz.underlying3
  have a2 := Tryz.isAgg3
  have z2 := Tryz.sizeOf3
  have u3 := Tryz.underlying54
  have a3 := Tryz.isAgg54
  have z3 := Tryz.sizeOf54
  have u4 := Tryz.underlying4
  have a4 := Tryz.isAgg4
  have z4 := Tryz.sizeOf4
  rw [run_equalIn_agg w (dd + 1) 56 _ _ f56 (by kernel_rfl)]
  simp only [Program.fieldsOf, Tryz.underlying56]
  go_simp
  by_cases h0 : n.toList = n'.toList
  case neg => simp [h0]
  by_cases h1 : a = a' <;> by_cases h2 : b = b' <;> by_cases h3 : c = c' <;> by_cases h4 : d = d' <;> by_cases h5 : e = e' <;> by_cases h6 : x = x' <;> simp [h0, h1, h2, h3, h4, h5, h6]
theorem in51_same (n n' : ByteArray) (r : Int) (b : Bool) (l : Int) (dd : Nat) (w : World) :
    (Op.equalIn (dd + 2) 51 (.agg #[.string n, .string n', .int .u8 r, .bool b, .int .i64 l]) (.agg #[.string n, .string n', .int .u8 r, .bool b, .int .i64 l])).run Tryz.prog w = .ok true w := by
  have u1 := Tryz.underlying9
  have a1 := Tryz.isAgg9
  have z1 := Tryz.sizeOf9
  have u2 := Tryz.underlying22
  have a2 := Tryz.isAgg22
  have z2 := Tryz.sizeOf22
  have u3 := Tryz.underlying4
  have a3 := Tryz.isAgg4
  have z3 := Tryz.sizeOf4
  have u4 := Tryz.underlying2
  have a4 := Tryz.isAgg2
  have z4 := Tryz.sizeOf2
  rw [run_equalIn_agg w (dd + 1) 51 _ _ f51 (by kernel_rfl)]
  simp only [Program.fieldsOf, Tryz.underlying51]
  go_simp
theorem in111_same (t r : ByteArray) (c : Int) (b1 b2 : Bool) (dd : Nat) (w : World) :
    (Op.equalIn (dd + 3) 111 (.agg #[.string t, .int .u8 c, .bool b1, .bool b2, .string r]) (.agg #[.string t, .int .u8 c, .bool b1, .bool b2, .string r])).run Tryz.prog w = .ok true w := by
  have u1 := Tryz.underlying9
  have a1 := Tryz.isAgg9
  have z1 := Tryz.sizeOf9
  have u2 := Tryz.underlying109
  have a2 := Tryz.isAgg109
  have z2 := Tryz.sizeOf109
  have hin := fun w => in109 c c b1 b2 b1 b2 dd w
  rw [run_equalIn_agg w (dd + 2) 111 _ _ f111 (by kernel_rfl)]
  simp only [Program.fieldsOf, Tryz.underlying111]
  go_simp
/-- Styles that are equal. -/
def stEq (a c : Int) (b1 b2 d1 d2 : Bool) : Bool := a == c && (b1 == d1 && b2 == d2)
theorem eq109 (a c : Int) (b1 b2 d1 d2 : Bool) (w : World) : (binOp .eql 109 (.agg #[.int .u8 a, .bool b1, .bool b2]) (.agg #[.int .u8 c, .bool d1, .bool d2])).run Tryz.prog w = .ok (.bool (stEq a c b1 b2 d1 d2)) w := by
  rw [run_eql_struct, show (10000 : Nat) = 9998 + 2 from rfl, in109]; rfl
/-- Regions that are equal. -/
def rgEq (n n' : ByteArray) (a b c d a' b' c' d' : Int) (e e' : Int) (x x' : Bool) : Bool := n.toList == n'.toList && (a == a' && (b == b' && (c == c' && (d == d' && (e == e' && x == x')))))
theorem ne59_same (a b : Int) (w : World) : (binOp .neq 59 (.agg #[.int .i64 a, .int .i64 b]) (.agg #[.int .i64 a, .int .i64 b])).run Tryz.prog w = .ok (.bool false) w := by
  rw [run_neq_struct, show (10000 : Nat) = 9998 + 2 from rfl, in59]; simp [Result.andThen]
theorem eq59_same (a b : Int) (w : World) : (binOp .eql 59 (.agg #[.int .i64 a, .int .i64 b]) (.agg #[.int .i64 a, .int .i64 b])).run Tryz.prog w = .ok (.bool true) w := by
  rw [run_eql_struct, show (10000 : Nat) = 9998 + 2 from rfl, in59]; simp [Result.andThen]
theorem eq51_same (n n' : ByteArray) (r : Int) (b : Bool) (l : Int) (w : World) :
    (binOp .eql 51 (.agg #[.string n, .string n', .int .u8 r, .bool b, .int .i64 l]) (.agg #[.string n, .string n', .int .u8 r, .bool b, .int .i64 l])).run Tryz.prog w = .ok (.bool true) w := by
  rw [run_eql_struct, show (10000 : Nat) = 9998 + 2 from rfl, in51_same]; rfl
theorem ne111_same (t r : ByteArray) (c : Int) (b1 b2 : Bool) (w : World) :
    (binOp .neq 111 (.agg #[.string t, .int .u8 c, .bool b1, .bool b2, .string r]) (.agg #[.string t, .int .u8 c, .bool b1, .bool b2, .string r])).run Tryz.prog w = .ok (.bool false) w := by
  rw [run_neq_struct, show (10000 : Nat) = 9997 + 3 from rfl, in111_same]; rfl
theorem eq56 (n n' : ByteArray) (a b c d a' b' c' d' : Int) (e e' : Int) (x x' : Bool) (w : World) :
    (binOp .eql 56 (.agg #[.string n, .int .i64 a, .int .i64 b, .int .i64 c, .int .i64 d, .int .u8 e, .bool x]) (.agg #[.string n', .int .i64 a', .int .i64 b', .int .i64 c', .int .i64 d', .int .u8 e', .bool x'])).run Tryz.prog w =
      .ok (.bool (rgEq n n' a b c d a' b' c' d' e e' x x')) w := by
  rw [run_eql_struct, show (10000 : Nat) = 9998 + 2 from rfl, in56]; rfl
end Go.Proofs.YtgiaohccebolpaaGreatDoor
namespace Go.Proofs.YtgiaohccebolpaaGreatDoor
open Go Go.RowKit
open Go.Lib hiding intOf
set_option linter.unusedVariables false
/-! ### rows in memory -/
def Made (B : Nat) (E : TypeId) (size n : Nat) (xs : List Value) (w : World) (e : Ending) (w' : World) : Prop :=
  ∃ v, e = .returned v ∧ w'.ownsRow B E size v n xs ∧ Below w.heap.size w w'
theorem cells_new (W : World) (l : List Value) (T : TypeId) {b : Nat} (hb : b = W.heap.size) : ∀ j u, l[j]? = some u → (W.alloc (.cells l.toArray T)).cell? ((⟨b, 0, none⟩ : Addr).add j) = some u := by
  subst hb
  intro j u hu
  have e : (⟨W.heap.size, 0, none⟩ : Addr).add j = ⟨W.heap.size, j, none⟩ := by unfold Addr.add; split <;> simp_all
  rw [e, World.cell?_alloc_new]
  simpa using hu
theorem app_step {B : Nat} {E : TypeId} {size k : Nat} {v : Value} {xs : List Value} {w W1 w' : World} (hown : W1.ownsRow B E size v k xs) (hB : Below B w W1) (hz : B ≤ W1.heap.size) (hg : W1.grownBy w' v.ownBlock) : Below B w w' :=
  hB.grown hg hz (fun j hj => (hown.lt j hj).1)
theorem own_len {w : World} {B e size n : Nat} {v : Value} {xs : List Value} (h : w.ownsRow B e size v n xs) : ∃ a c, v = .slice a n c := by
  rcases h.2 with ⟨rfl, h2⟩ | ⟨g, cap, cur, rfl, _⟩
  · exact ⟨none, 0, by rw [h2]⟩
  · exact ⟨_, _, rfl⟩
theorem own_stays {B : Nat} {E : TypeId} {s n : Nat} {v : Value} {xs : List Value} {w w' : World} (hown : w.ownsRow B E s v n xs) (hb : Below w.heap.size w w') : w'.ownsRow B E s v n xs := by
  refine ⟨hown.1, ?_⟩
  rcases hown.2 with h | ⟨g', c', cur', hv, hgb, hgg, rest⟩
  · exact Or.inl h
  · exact Or.inr ⟨g', c', cur', hv, hgb, by rw [hb.block _ (Array.getElem?_eq_some_iff.1 hgg).1]; exact hgg, rest⟩
/-- Rows of two types are two blocks. -/
theorem rows_apart {w : World} {B B' s s' n m : Nat} {E E' : TypeId} {v u : Value} {xs ys : List Value} (hE : E ≠ E') (h : w.ownsRow B E s v n xs) (h' : w.ownsRow B' E' s' u m ys) : u.ownBlock = none ∨ u.ownBlock ≠ v.ownBlock := by
  rcases h'.2 with ⟨rfl, _⟩ | ⟨g', c', cur', rfl, _, hg', _⟩
  · exact Or.inl rfl
  · right
    rcases h.2 with ⟨rfl, _⟩ | ⟨g, c, cur, rfl, _, hg, _⟩
    · simp [Value.ownBlock]
    · simp only [Value.ownBlock, ne_eq, Option.some.injEq]
      intro e; subst e
      rw [hg] at hg'
      simp at hg'
      exact hE hg'.2
theorem blk_stay {w w' : World} {b : Nat} {o : Obj} (h : w.heap[b]? = some o) (hb : Below w.heap.size w w') : w'.heap[b]? = some o := by
  rw [hb.block _ (heap_lt h)]; exact h
theorem blk_ne {w : World} {b E' s n : Nat} {E : TypeId} {cs : Array Value} {v : Value} {xs : List Value} (hE : E ≠ E') (h : w.heap[b]? = some (.cells cs E (0, 0))) (ho : w.ownsRow 0 E' s v n xs) : v.ownBlock ≠ some b := by
  intro e
  rcases ho.2 with h2 | ⟨g', cap', cur, rfl, _, hg, _⟩
  · rw [h2.1] at e; cases e
  · injection e with e
    subst e
    rw [hg] at h
    injection h with h
    injection h with _ h _
    exact hE h.symm
theorem own_far {w : World} {B e s n k o : Nat} {v u : Value} {xs : List Value} (h : w.ownsRow B e s v n xs) (hk : v.ownBlock ≠ some k) : (w.setCell ⟨k, o, none⟩ u).ownsRow B e s v n xs := by
  refine ⟨h.1, ?_⟩
  rcases h.2 with h2 | ⟨g, cap, cur, rfl, hb, hg, rest⟩
  · exact Or.inl h2
  · refine Or.inr ⟨g, cap, cur, rfl, hb, ?_, rest⟩
    rw [heap_setCell_other w ⟨k, o, none⟩ g u (by intro e; exact hk (by rw [e]; rfl))]
    exact hg
theorem own_base {w : World} {B e s n : Nat} {v : Value} {xs : List Value} (h : w.ownsRow B e s v n xs) : w.ownsRow 0 e s v n xs := by
  refine ⟨h.1, ?_⟩
  rcases h.2 with h2 | ⟨g, cap, cur, h2, _, rest⟩
  · exact Or.inl h2
  · exact Or.inr ⟨g, cap, cur, h2, Nat.zero_le _, rest⟩
theorem own_from {w : World} {B e s n k : Nat} {v : Value} {xs : List Value} (h : w.ownsRow B e s v n xs) (hk : v.ownBlock = some k) : B ≤ k := by
  rcases h.2 with ⟨rfl, _⟩ | ⟨g, cap, cur, rfl, hb, _⟩
  · cases hk
  · injection hk with e; subst e; exact hb
theorem own_lt {w : World} {B e s n k : Nat} {v : Value} {xs : List Value} (h : w.ownsRow B e s v n xs) (hk : v.ownBlock = some k) : k < w.heap.size := by
  rcases h.2 with ⟨rfl, _⟩ | ⟨g, cap, cur, rfl, _, hg, _⟩
  · cases hk
  · injection hk with e; subst e; exact heap_lt hg
theorem own_low {w : World} {B B' e s n : Nat} {v : Value} {xs : List Value} (h : w.ownsRow B e s v n xs) (hB : B' ≤ B) : w.ownsRow B' e s v n xs := by
  refine ⟨h.1, ?_⟩
  rcases h.2 with h2 | ⟨g, cap, cur, h2, hb, rest⟩
  · exact Or.inl h2
  · exact Or.inr ⟨g, cap, cur, h2, by omega, rest⟩
theorem row_far {w : World} {b B size n o : Nat} {E E' : TypeId} {v u : Value} {cs : Array Value} {xs : List Value} (hE : E ≠ E') (h : w.heap[b]? = some (.cells cs E (0, 0))) (ho : w.ownsRow B E' size v n xs) : (w.setCell ⟨b, o, none⟩ u).ownsRow B E' size v n xs := by
  refine ⟨ho.1, ?_⟩
  rcases ho.2 with h2 | ⟨g, cap, cur, rfl, hb, hg, rest⟩
  · exact Or.inl h2
  · refine Or.inr ⟨g, cap, cur, rfl, hb, ?_, rest⟩
    rw [heap_setCell_other w ⟨b, o, none⟩ g u (by
      intro e
      subst e
      rw [hg] at h
      injection h with h
      injection h with _ h _
      exact hE h.symm)]
    exact hg
/-- A row that is read: a slice's elements, wherever it begins. -/
def emptyS : Value → Bool
  | .slice _ 0 0 => true
  | _ => false
theorem emptyS_form {v : Value} (h : emptyS v = true) : ∃ a, v = .slice a 0 0 := by
  unfold emptyS at h
  split at h
  · exact ⟨_, rfl⟩
  · cases h
def RowR (w : World) (size : Nat) (v : Value) (n : Nat) (xs : List Value) : Prop :=
  xs.length = n * size ∧ ((emptyS v = true ∧ n = 0) ∨ ∃ g off cap, v = .slice (some ⟨g, off, none⟩) n cap ∧ g < w.heap.size ∧ n ≤ cap ∧ ∀ j u, xs[j]? = some u → w.cell? ⟨g, off + j, none⟩ = some u)
theorem RowR.of_own {w : World} {B : Nat} {e : TypeId} {size n : Nat} {v : Value} {xs : List Value} (h : w.ownsRow B e size v n xs) : RowR w size v n xs := by
  refine ⟨h.1, ?_⟩
  rcases h.2 with h2 | ⟨g, cap, cur, rfl, hb, hg, hc, hm, hs, hx⟩
  · exact Or.inl ⟨by rw [h2.1]; rfl, h2.2⟩
  · refine Or.inr ⟨g, 0, cap, rfl, heap_lt hg, hc, fun j u hu => ?_⟩
    have h1 := h.cells (g := g) rfl j u hu
    have e : (⟨g, 0, none⟩ : Addr).add j = ⟨g, 0 + j, none⟩ := by unfold Addr.add; split <;> simp_all
    rwa [e] at h1
theorem RowR.below {w w' : World} {size n : Nat} {v : Value} {xs : List Value} (h : RowR w size v n xs) (hb : Below w.heap.size w w') : RowR w' size v n xs := by
  refine ⟨h.1, ?_⟩
  rcases h.2 with h2 | ⟨g, off, cap, rfl, hg, hc, hx⟩
  · exact Or.inl h2
  · exact Or.inr ⟨g, off, cap, rfl, by have := hb.size; omega, hc, fun j u hu => (hb.cell (p := ⟨g, off + j, none⟩) hg).trans (hx j u hu)⟩
theorem add_addr (g off j : Nat) : (⟨g, off, none⟩ : Addr).add j = ⟨g, off + j, none⟩ := by unfold Addr.add; split <;> simp_all
section
variable {P : Program} {w : World}
theorem run_append_row (base : Nat) (t ty e : TypeId) (i : TypeInfo) (z : Value) (size bytes : Nat) (ht : P.underlying t = some (.slice e)) (hi : P.info? e = some i) (hz : i.zero = some z)
    (hsize : i.size = size) (hby : i.bytes = bytes) (hzs : z.cells.size = size) (hsz : 0 < size) (v : Value) (n : Nat) (xs : List Value) (hown : w.ownsRow base e size v n xs)
    (v2 : Value) (m : Nat) (news : List Value) (hr : RowR w size v2 m news) (h1 : ∀ u ∈ news, u.oneCell' = true) (h63 : n + m ≤ maxLen) (hbytes : (n + m) * bytes ≤ 140737488355328) (hbase : base ≤ w.heap.size) :
    ∃ v' w', (Builtin.append_ #[t, t] ty #[v, v2]).run P w = .ok v' w' ∧ w'.ownsRow base e size v' (n + m) (xs ++ news) ∧ w.grownBy w' v.ownBlock ∧ (v'.ownBlock = v.ownBlock ∨ v'.ownBlock = some w.heap.size) := by
  rcases hr.2 with ⟨hv, rfl⟩ | ⟨g, off, cap, rfl, hg, hc, hx⟩
  · have hn : news = [] := List.length_eq_zero_iff.1 (by have := hr.1; omega)
    subst hn
    obtain ⟨a, rfl⟩ := emptyS_form hv
    cases a with
    | some a =>
      obtain ⟨v', w', hrun, h2, h3, _, h5⟩ := run_append_own_at (P := P) w base t ty e i z size bytes ht hi hz hsize hby hzs hsz v n xs hown a 0 0 [] hr.1 (fun j u hu => by simp at hu) h1 h63 hbytes hbase
      exact ⟨v', w', hrun, h2, h3, h5⟩
    | none =>
    exact ⟨v, w, run_append_owned_none (P := P) (w := w) base t ty e i size ht hi v n xs hown, by simpa using hown, World.grownBy.refl w _, .inl rfl⟩
  · obtain ⟨v', w', hrun, h2, h3, _, h5⟩ := run_append_own_at (P := P) w base t ty e i z size bytes ht hi hz hsize hby hzs hsz v n xs hown ⟨g, off, none⟩ m cap news hr.1 (fun j u hu => by rw [add_addr]; exact hx j u hu) h1 h63 hbytes hbase
    exact ⟨v', w', hrun, h2, h3, h5⟩
theorem wp_append_row {o : Oper} {a : Act} {K : Act → World → Prop} {Q : Exit → Act → World → Prop} (s x : Operand) (t : TypeId) (ho : o.op = .call { callee := .builtin .append, args := #[s, x], argTypes := #[t, t] })
    (base : Nat) (e : TypeId) (i : TypeInfo) (z : Value) (size bytes : Nat) (ht : P.underlying t = some (.slice e)) (hi : P.info? e = some i) (hz : i.zero = some z)
    (hsize : i.size = size) (hby : i.bytes = bytes) (hzs : z.cells.size = size) (hsz : 0 < size) (v : Value) (n : Nat) (xs : List Value) (hs : a.eval s = v) (hown : w.ownsRow base e size v n xs)
    (v2 : Value) (m : Nat) (news : List Value) (hx : a.eval x = v2) (hr : RowR w size v2 m news) (h1 : ∀ u ∈ news, u.oneCell' = true) (h63 : n + m ≤ maxLen) (hbytes : (n + m) * bytes ≤ 140737488355328) (hbase : base ≤ w.heap.size)
    (h : ∀ v' w', w'.ownsRow base e size v' (n + m) (xs ++ news) → w.grownBy w' v.ownBlock → (v'.ownBlock = v.ownBlock ∨ v'.ownBlock = some w.heap.size) → K (a.put o.dst v') w') : o.wp P a w K Q := by
  obtain ⟨v', w', hrun, h2, h3, h4⟩ := run_append_row (P := P) base t o.type e i z size bytes ht hi hz hsize hby hzs hsz v n xs hown v2 m news hr h1 h63 hbytes hbase
  unfold Oper.wp execOp
  simp only [ho, resolve, invoke, builtin, Sem.run_bind, Sem.run_pure, Result.andThen_ok, List.map_toArray, List.map_cons, List.map_nil, hs, hx, hrun]
  exact h v' w' h2 h3 h4
theorem wpList_append_row {ops : Array Oper} {rest : List Oper} {o : Oper} {a : Act} {Q : Exit → Act → World → Prop} (hgd : o.guard = none) (s x : Operand) (t : TypeId) (ho : o.op = .call { callee := .builtin .append, args := #[s, x], argTypes := #[t, t] })
    (base : Nat) (e : TypeId) (i : TypeInfo) (z : Value) (size bytes : Nat) (ht : P.underlying t = some (.slice e)) (hi : P.info? e = some i) (hz : i.zero = some z)
    (hsize : i.size = size) (hby : i.bytes = bytes) (hzs : z.cells.size = size) (hsz : 0 < size) (v : Value) (n : Nat) (xs : List Value) (hs : a.eval s = v) (hown : w.ownsRow base e size v n xs)
    (v2 : Value) (m : Nat) (news : List Value) (hx : a.eval x = v2) (hr : RowR w size v2 m news) (h1 : ∀ u ∈ news, u.oneCell' = true) (h63 : n + m ≤ maxLen) (hbytes : (n + m) * bytes ≤ 140737488355328) (hbase : base ≤ w.heap.size)
    (h : ∀ v' w', w'.ownsRow base e size v' (n + m) (xs ++ news) → w.grownBy w' v.ownBlock → (v'.ownBlock = v.ownBlock ∨ v'.ownBlock = some w.heap.size) → wpList P ops Q rest (a.put o.dst v') w') : wpList P ops Q (o :: rest) a w :=
  wpList_plain hgd fun _ hK => wp_append_row s x t ho base e i z size bytes ht hi hz hsize hby hzs hsz v n xs hs hown v2 m news hx hr h1 h63 hbytes hbase fun v' w' h2 h3 h4 => hK _ _ (h v' w' h2 h3 h4)
theorem step_append_row {ops : Array Oper} {o : Oper} {a : Act} {K : Act → World → Prop} {Q : Exit → Act → World → Prop} {E : Prop} (hgd : o.guard = none) (s x : Operand) (t : TypeId) (ho : o.op = .call { callee := .builtin .append, args := #[s, x], argTypes := #[t, t] })
    (base : Nat) (e : TypeId) (i : TypeInfo) (z : Value) (size bytes : Nat) (ht : P.underlying t = some (.slice e)) (hi : P.info? e = some i) (hz : i.zero = some z)
    (hsize : i.size = size) (hby : i.bytes = bytes) (hzs : z.cells.size = size) (hsz : 0 < size) (v : Value) (n : Nat) (xs : List Value) (hs : a.eval s = v) (hown : w.ownsRow base e size v n xs)
    (v2 : Value) (m : Nat) (news : List Value) (hx : a.eval x = v2) (hr : RowR w size v2 m news) (h1 : ∀ u ∈ news, u.oneCell' = true) (h63 : n + m ≤ maxLen) (hbytes : (n + m) * bytes ≤ 140737488355328) (hbase : base ≤ w.heap.size)
    (h : ∀ v' w', w'.ownsRow base e size v' (n + m) (xs ++ news) → w.grownBy w' v.ownBlock → (v'.ownBlock = v.ownBlock ∨ v'.ownBlock = some w.heap.size) → K (a.put o.dst v') w') :
    if Region.wanted o (yielded ops a.tmps) = true then Oper.wp P o a w K Q else E := by
  have hw : Region.wanted o (yielded ops a.tmps) = true := by simp [Region.wanted, hgd]
  rw [if_pos hw]
  exact wp_append_row s x t ho base e i z size bytes ht hi hz hsize hby hzs hsz v n xs hs hown v2 m news hx hr h1 h63 hbytes hbase h
end
theorem RowR.alloc {w : World} {size n : Nat} {v : Value} {xs : List Value} (h : RowR w size v n xs) (o : Obj) : RowR (w.alloc o) size v n xs := h.below (below1 o (Nat.le_refl _))
theorem RowR.drewN {w : World} {size n : Nat} {v : Value} {xs : List Value} (h : RowR w size v n xs) (k : Nat) : RowR (w.drewN k) size v n xs := h
theorem RowR.drew {w : World} {size n : Nat} {v : Value} {xs : List Value} (h : RowR w size v n xs) : RowR w.drew size v n xs := h
theorem RowR.len {w : World} {size n : Nat} {v : Value} {xs : List Value} (h : RowR w size v n xs) : ∃ a c, v = .slice a n c := by
  rcases h.2 with ⟨hv, rfl⟩ | ⟨g, off, cap, rfl, _⟩
  · obtain ⟨a, rfl⟩ := emptyS_form hv
    exact ⟨a, 0, rfl⟩
  · exact ⟨_, _, rfl⟩
theorem RowR.cap {w : World} {size n m c : Nat} {a : Option Addr} {xs : List Value} (h : RowR w size (.slice a m c) n xs) : n ≤ c := by
  rcases h.2 with ⟨e, h0⟩ | ⟨g, off, cap, e, _, hc, _⟩
  · omega
  · injection e with _ _ e; omega
/-- Nothing, or a slice with an address. -/
theorem RowR.form {w : World} {size n : Nat} {v : Value} {xs : List Value} (h : RowR w size v n xs) : (v = .slice none 0 0 ∧ n = 0) ∨ ∃ a cap, v = .slice (some a) n cap := by
  rcases h.2 with ⟨hv, rfl⟩ | ⟨g, off, cap, rfl, _⟩
  · obtain ⟨a, rfl⟩ := emptyS_form hv
    cases a with
    | none => exact Or.inl ⟨rfl, rfl⟩
    | some a => exact Or.inr ⟨a, 0, rfl⟩
  · exact Or.inr ⟨_, _, rfl⟩
/-- A row keeps where its block stays. -/
theorem RowR.kept {w w' : World} {size n : Nat} {v : Value} {xs : List Value} (h : RowR w size v n xs) (hz : w.heap.size ≤ w'.heap.size) (hk : ∀ k, v.ownBlock = some k → w'.heap[k]? = w.heap[k]?) : RowR w' size v n xs := by
  refine ⟨h.1, ?_⟩
  rcases h.2 with h2 | ⟨g, off, cap, rfl, hg, hc, hx⟩
  · exact Or.inl h2
  · exact Or.inr ⟨g, off, cap, rfl, by omega, hc, fun j u hu => (World.cell?_of_block (a := ⟨g, off + j, none⟩) (hk g rfl)).trans (hx j u hu)⟩
theorem post_as {P : Program} {fn : Func} {R : Ending → World → Prop} {e : Exit} {a : Act} {w : World} (F : World → Prop) (h : F w) (k : ∀ W, F W → bodyPost P fn R e a W) : bodyPost P fn R e a w := k w h

theorem lit_row (w : World) (cs : Array Value) (T : TypeId) {b k : Nat} (hb : b = w.heap.size) (hk : cs.size = 1 * k) : RowR (w.alloc (.cells cs T)) k (.slice (some ⟨b, 0, none⟩) 1 1) 1 cs.toList := by
  subst hb
  refine ⟨by simpa using hk, Or.inr ⟨w.heap.size, 0, 1, rfl, by simp, Nat.le_refl _, fun j u hu => ?_⟩⟩
  rw [Nat.zero_add, World.cell?_alloc_new]
  simpa using hu
theorem one_lit {cs : Array Value} (h : cs.toList.all (·.oneCell') = true) : ∀ u ∈ cs.toList, u.oneCell' = true := List.all_eq_true.1 h
/-! ### rows of structs -/
section
variable {α : Type} {enc : α → List Value} {k : Nat}
def encL (enc : α → List Value) (l : List α) : List Value := l.flatMap enc
theorem encL_nil : encL enc [] = [] := rfl
theorem encL_app (a b : List α) : encL enc (a ++ b) = encL enc a ++ encL enc b := by simp [encL]
theorem encL_snoc (a : List α) (x : α) : encL enc (a ++ [x]) = encL enc a ++ enc x := by simp [encL]
theorem encL_len (hk : ∀ x, (enc x).length = k) : ∀ l : List α, (encL enc l).length = l.length * k
  | [] => by simp [encL]
  | x :: t => by
    have h := encL_len hk t
    unfold encL at h ⊢
    rw [List.flatMap_cons, List.length_append, hk, h, List.length_cons, Nat.add_mul]; omega
theorem encL_get (hk : ∀ x, (enc x).length = k) : ∀ (l : List α) (i : Nat) (h : i < l.length) (j : Nat) (hj : j < k), (encL enc l)[i * k + j]? = (enc l[i])[j]?
  | [], i, h, j, hj => by simp at h
  | x :: t, 0, h, j, hj => by
    show (enc x ++ encL enc t)[0 * k + j]? = _
    rw [Nat.zero_mul, Nat.zero_add, List.getElem?_append_left (by rw [hk]; exact hj)]; rfl
  | x :: t, i + 1, h, j, hj => by
    have ih := encL_get hk t i (by simpa using h) j hj
    show (enc x ++ encL enc t)[(i + 1) * k + j]? = _
    rw [List.getElem?_append_right (by rw [hk, Nat.add_mul]; omega), hk, show (i + 1) * k + j - k = i * k + j by rw [Nat.add_mul]; omega, ih]; rfl
theorem encL_one (hk : ∀ x, ∀ u ∈ enc x, u.oneCell' = true) (l : List α) : ∀ u ∈ encL enc l, u.oneCell' = true := by
  intro u hu
  simp only [encL, List.mem_flatMap] at hu
  obtain ⟨x, _, h⟩ := hu
  exact hk x u h
theorem RowR.cellAt {w : World} {n g off cap : Nat} {xs : List Value} (h : RowR w k (.slice (some ⟨g, off, none⟩) n cap) n xs) (j : Nat) (u : Value) (hu : xs[j]? = some u) : w.cell? ⟨g, off + j, none⟩ = some u := by
  obtain ⟨hl, h' | ⟨g', off', cap', e, hg, hc, hx⟩⟩ := h
  · obtain ⟨e, rfl⟩ := h'
    have hn : xs = [] := List.length_eq_zero_iff.1 (by omega)
    rw [hn] at hu; simp at hu
  · injection e with e1 _ e3
    injection e1 with e1
    injection e1 with e1 e2
    subst e1 e2
    exact hx _ _ hu
theorem RowR.elem (hk : ∀ x, (enc x).length = k) {w : World} {n g off cap : Nat} {l : List α} (h : RowR w k (.slice (some ⟨g, off, none⟩) n cap) n (encL enc l)) (i : Nat) (hi : i < l.length) (j : Nat) (hj : j < k) (u : Value) (hu : (enc l[i])[j]? = some u) :
    w.cell? ⟨g, off + i * k + j, none⟩ = some u := by
  rw [Nat.add_assoc]
  exact h.cellAt _ _ (by rw [encL_get hk l i hi j hj]; exact hu)
theorem RowR.addr {w : World} {n m c : Nat} {a : Option Addr} {xs : List Value} (h : RowR w k (.slice a m c) n xs) (hn : 0 < n) : ∃ g off, a = some ⟨g, off, none⟩ ∧ g < w.heap.size ∧ m = n := by
  obtain ⟨hl, h' | ⟨g', off', cap', e, hg, hc, hx⟩⟩ := h
  · omega
  · injection e with e1 e2 e3
    exact ⟨g', off', e1, hg, e2⟩
/-- A part of a row from its beginning. -/
theorem RowR.take {w : World} {n c m : Nat} {a : Option Addr} {l : List α} (hk : ∀ x, (enc x).length = k) (h : RowR w k (.slice a n c) n (encL enc l)) (hm : m ≤ n) : RowR w k (.slice a m c) m (encL enc (l.take m)) := by
  have hl : l.length * k = n * k := by have := h.1; rwa [encL_len hk] at this
  obtain ⟨_, h' | ⟨g', off', cap', e, hg, hc, hx⟩⟩ := h
  · obtain ⟨e, rfl⟩ := h'
    obtain rfl : m = 0 := by omega
    exact ⟨by simp [encL], Or.inl ⟨e, rfl⟩⟩
  · injection e with e1 _ e3
    subst e1 e3
    have hlen : (encL enc (l.take m)).length = m * k := by
      rw [encL_len hk, List.length_take]
      rcases Nat.eq_zero_or_pos k with rfl | hp
      · simp
      · have := Nat.eq_of_mul_eq_mul_right hp hl
        rw [Nat.min_eq_left (by omega)]
    refine ⟨hlen, Or.inr ⟨g', off', c, rfl, hg, by omega, fun j u hu => hx j u ?_⟩⟩
    have e2 : encL enc l = encL enc (l.take m) ++ encL enc (l.drop m) := by rw [← encL_app, List.take_append_drop]
    rw [e2, List.getElem?_append_left (List.getElem?_eq_some_iff.1 hu).1]; exact hu
end
theorem getD_of {α : Type} {l : List α} {i : Nat} (h : i < l.length) (d : α) : l.getD i d = l[i] := by
  rw [List.getD_eq_getElem?_getD, List.getElem?_eq_getElem h]; rfl
theorem ba_list (l : List UInt8) : (ba l).toList = l := by rw [toList_data]; rfl
theorem ba_size (l : List UInt8) : (ba l).size = l.length := by rw [size_eq]; rfl
theorem ba_data (l : List UInt8) : (ba l).data.toList = l := rfl
theorem ba_of (s : ByteArray) : ba s.data.toList = s := rfl
abbrev ptr (b : Nat) : Value := .pointer (some ⟨b, 0, none⟩)
def Errs (ok : Bool) (z : Int) : Prop := (z == 0) = ok
theorem Errs.yes {z : Int} (h : Errs true z) : z = 0 := by unfold Errs at h; simpa using h
theorem Errs.no {z : Int} (h : Errs false z) : (z == 0) = false ∧ (z != 0) = true := by
  unfold Errs at h; exact ⟨h, by simp [bne, h]⟩
end Go.Proofs.YtgiaohccebolpaaGreatDoor
