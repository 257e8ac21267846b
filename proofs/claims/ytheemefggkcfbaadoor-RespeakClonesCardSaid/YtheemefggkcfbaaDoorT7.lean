import Derived.Test.YtheemefggkcfbaaDoorT6
namespace Go.Proofs.YtheemefggkcfbaaDoor
open Go Go.Lib Go.RowKit Go.Shelf
def tightS : ByteArray := ⟨#[97, 32, 97, 110, 32, 116, 104, 101, 32, 111, 102, 32, 116, 111, 32, 105, 110, 32, 111, 110, 32, 97, 116, 32, 98, 121, 32, 102, 111, 114, 32, 102, 114, 111, 109, 32, 119, 105, 116, 104, 32, 109, 121, 32, 121, 111, 117, 114, 32, 104, 105, 115, 32, 104, 101, 114, 32, 105, 116, 115, 32, 111, 117, 114, 32, 116, 104, 101, 105, 114, 32, 110, 111]⟩
def joinedS : ByteArray := ⟨#[97, 110, 100, 32, 98, 117, 116, 32, 111, 114, 32, 98, 101, 99, 97, 117, 115, 101, 32, 116, 104, 97, 116, 32, 119, 104, 105, 99, 104, 32, 119, 104, 111, 32, 119, 104, 101, 110, 32, 105, 102, 32, 119, 104, 105, 108, 101, 32, 115, 111, 32, 97, 115]⟩
def tightW : List (List UInt8) := [[97], [97, 110], [116, 104, 101], [111, 102], [116, 111], [105, 110], [111, 110], [97, 116], [98, 121], [102, 111, 114], [102, 114, 111, 109], [119, 105, 116, 104], [109, 121], [121, 111, 117, 114], [104, 105, 115], [104, 101, 114], [105, 116, 115], [111, 117, 114], [116, 104, 101, 105, 114], [110, 111]]
def joinedW : List (List UInt8) := [[97, 110, 100], [98, 117, 116], [111, 114], [98, 101, 99, 97, 117, 115, 101], [116, 104, 97, 116], [119, 104, 105, 99, 104], [119, 104, 111], [119, 104, 101, 110], [105, 102], [119, 104, 105, 108, 101], [115, 111], [97, 115]]
theorem tight_words : words tightS.data.toList = tightW := by decide +kernel
theorem tight_count : Lib.countB tightS ⟨#[32]⟩ = 19 := by decide +kernel
theorem tight_split : (Lib.splitB ⟨#[32]⟩ 0 (Lib.countB tightS ⟨#[32]⟩) tightS).map (·.data.toList) = tightW := by decide +kernel
theorem tight_size : tightS.size = 73 := by decide +kernel
theorem tight_any (x : ByteArray) (w : World) (hE : Env w) :
    Calls Tryd.prog 62 #[.string x, .string tightS] w fun e w' => e = .returned (.bool (memW x.data.toList tightW)) ∧ Below w.heap.size w w' :=
  among_any tightS x tightW w (by decide) (split_any tightS tightW w hE (by rw [tight_size]; decide) (by have h := congrArg List.length tight_split; rw [List.length_map] at h; rw [h, tight_count]; rfl) (by rw [tight_count]; unfold maxLen; decide) tight_split)
theorem rtight_any (x : ByteArray) (w : World) :
    Calls Tryd.prog 64 #[.string tightS, .string x] w fun e w' => e = .returned (.bool (memW x.data.toList tightW)) ∧ Below w.heap.size w w' := by
  have h := ramong_any tightS x w (by rw [tight_size]; decide)
  rw [tight_words] at h
  exact h
theorem joined_words : words joinedS.data.toList = joinedW := by decide +kernel
theorem joined_count : Lib.countB joinedS ⟨#[32]⟩ = 11 := by decide +kernel
theorem joined_split : (Lib.splitB ⟨#[32]⟩ 0 (Lib.countB joinedS ⟨#[32]⟩) joinedS).map (·.data.toList) = joinedW := by decide +kernel
theorem joined_size : joinedS.size = 53 := by decide +kernel
theorem joined_any (x : ByteArray) (w : World) (hE : Env w) :
    Calls Tryd.prog 62 #[.string x, .string joinedS] w fun e w' => e = .returned (.bool (memW x.data.toList joinedW)) ∧ Below w.heap.size w w' :=
  among_any joinedS x joinedW w (by decide) (split_any joinedS joinedW w hE (by rw [joined_size]; decide) (by have h := congrArg List.length joined_split; rw [List.length_map] at h; rw [h, joined_count]; rfl) (by rw [joined_count]; unfold maxLen; decide) joined_split)
theorem rjoined_any (x : ByteArray) (w : World) :
    Calls Tryd.prog 64 #[.string joinedS, .string x] w fun e w' => e = .returned (.bool (memW x.data.toList joinedW)) ∧ Below w.heap.size w w' := by
  have h := ramong_any joinedS x w (by rw [joined_size]; decide)
  rw [joined_words] at h
  exact h

/-- The quotes and brackets behind a word. -/
def quoteL : List UInt8 := [34, 39, 41, 93]
def trimQ (l : List UInt8) : List UInt8 := Lib.trimRightS l quoteL
def lastB (l : List UInt8) : Nat := if l = [] then 0 else (l.getD (l.length - 1) 0).toNat
def minusL : List UInt8 := [45]
/-- The strength of a boundary. -/
def strW (w n : List UInt8) : Int :=
  if lastB (trimQ w) = 46 ∨ lastB (trimQ w) = 33 ∨ lastB (trimQ w) = 63 then 5
  else if lastB (trimQ w) = 58 ∨ lastB (trimQ w) = 59 ∨ w = minusL then 4
  else if lastB (trimQ w) = 44 then 3
  else if memW (low w) tightW = true then 0
  else if memW (low n) joinedW = true then 2
  else 1
theorem strW_range (w n : List UInt8) : 0 ≤ strW w n ∧ strW w n ≤ 5 := by
  unfold strW
  repeat' split
  all_goals omega
theorem minus_eq (s : ByteArray) : (s.toList == [45]) = decide (s.data.toList = minusL) := by
  rw [toList_data]
  exact Bool.eq_iff_iff.2 (by rw [beq_iff_eq, decide_eq_true_iff]; exact Iff.rfl)
theorem empty_eq (l : List UInt8) : (ba l).toList.isEmpty = decide (l = []) := by
  rw [ba_list]
  exact Bool.eq_iff_iff.2 (by simp)
theorem trimQ_len (l : List UInt8) : (trimQ l).length ≤ l.length := by
  unfold trimQ Lib.trimRightS
  rw [List.length_reverse]
  have h := (List.dropWhile_sublist (fun b => quoteL.contains b) (l := l.reverse)).length_le
  rw [List.length_reverse] at h
  exact h
theorem strW_def (w n : List UInt8) : strW w n = if lastB (trimQ w) = 46 ∨ lastB (trimQ w) = 33 ∨ lastB (trimQ w) = 63 then 5
  else if lastB (trimQ w) = 58 ∨ lastB (trimQ w) = 59 ∨ w = minusL then 4
  else if lastB (trimQ w) = 44 then 3
  else if memW (low w) tightW = true then 0
  else if memW (low n) joinedW = true then 2
  else 1 := rfl
theorem idx_ba (l : List UInt8) (h : l ≠ []) (w : World) : (Instr.index 9 (.string (ba l)) (.int .i64 (((ba l).size : Int) - 1))).run Tryd.prog w = .ok (.int .u8 (lastB l : Int)) w := by
  have hl : 0 < l.length := List.length_pos_iff.2 h
  have e := idx_str (ba l) (l.length - 1) (by rw [ba_size]; omega) w
  have e2 : ((ba l).size : Int) - 1 = ((l.length - 1 : Nat) : Int) := by rw [ba_size]; omega
  rw [e2, e]
  unfold lastB
  rw [if_neg h]
  rfl
end Go.Proofs.YtheemefggkcfbaaDoor
