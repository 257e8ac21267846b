import Derived.Test.YtheemefggkcfbaaDoorT6
import Derived.Laws.IdiomStrings
namespace Go.Proofs.YtheemefggkcfbaaDoor
open Go Go.Lib Go.RowKit Go.Shelf
/-! ### the characters of the caption service -/
def ccB : ByteArray := ⟨#[32, 33, 34, 35, 36, 37, 38, 226, 128, 153, 40, 41, 195, 161, 43, 44, 45, 46, 47, 48, 49, 50, 51, 52, 53, 54, 55, 56, 57, 58, 59, 60, 61, 62, 63, 64, 65, 66, 67, 68, 69, 70, 71, 72, 73, 74, 75, 76, 77, 78, 79, 80, 81, 82, 83, 84, 85, 86, 87, 88, 89, 90, 91, 195, 169, 93, 195, 173, 195, 179, 195, 186, 97, 98, 99, 100, 101, 102, 103, 104, 105, 106, 107, 108, 109, 110, 111, 112, 113, 114, 115, 116, 117, 118, 119, 120, 121, 122, 195, 167, 195, 183, 195, 145, 195, 177, 226, 150, 136]⟩
def ccS : ByteArray := ⟨#[194, 174, 194, 176, 194, 189, 194, 191, 226, 132, 162, 194, 162, 194, 163, 226, 153, 170, 195, 160, 194, 160, 195, 168, 195, 162, 195, 170, 195, 174, 195, 180, 195, 187]⟩
def ccF : ByteArray := ⟨#[195, 129, 195, 137, 195, 147, 195, 154, 195, 156, 195, 188, 226, 128, 152, 194, 161, 42, 39, 226, 128, 148, 194, 169, 226, 132, 160, 226, 128, 162, 226, 128, 156, 226, 128, 157, 195, 128, 195, 130, 195, 135, 195, 136, 195, 138, 195, 139, 195, 171, 195, 142, 195, 143, 195, 175, 195, 148, 195, 153, 195, 185, 195, 155, 194, 171, 194, 187]⟩
def ccT : ByteArray := ⟨#[195, 131, 195, 163, 195, 141, 195, 140, 195, 172, 195, 146, 195, 178, 195, 149, 195, 181, 123, 125, 92, 94, 95, 194, 166, 126, 195, 132, 195, 164, 195, 150, 195, 182, 195, 159, 194, 165, 194, 164, 124, 195, 133, 195, 165, 195, 152, 195, 184, 226, 148, 140, 226, 148, 144, 226, 148, 148, 226, 148, 152]⟩
def basicN (b : Nat) : Nat := if b = 39 then 8217 else if b = 42 then 225 else if b = 92 then 233 else if b = 94 then 237 else if b = 95 then 243 else if b = 96 then 250 else if b = 123 then 231 else if b = 124 then 247 else if b = 125 then 209 else if b = 126 then 241 else if b = 127 then 9608 else b
def memI (l : List Nat) (r : Int) : Bool := l.any fun x => decide ((x : Int) = r)
theorem memI_cons (x : Nat) (l : List Nat) (r : Int) : memI (x :: l) r = (decide ((x : Int) = r) || memI l r) := rfl
theorem findR_mem : ∀ (l : List Nat) (r n : Int), 0 ≤ n → (decide (0 ≤ findR l r n) = memI l r)
  | [], r, n, _ => by simp [findR, memI]
  | x :: t, r, n, h => by
    unfold findR
    rw [memI_cons]
    by_cases hx : (x : Int) = r
    · rw [if_pos hx, decide_eq_true hx, Bool.true_or, decide_eq_true h]
    · rw [if_neg hx, decide_eq_false hx, Bool.false_or]; exact findR_mem t r (n + 1) (by omega)
def basicL : List Nat := (List.range 96).map fun i => basicN (i + 32)
theorem basic_eq : basicL = runes ccB.data.toList := by decide +kernel
def ccBL : List Nat := runes ccB.data.toList
def ccSL : List Nat := runes ccS.data.toList
def ccFL : List Nat := runes ccF.data.toList
def ccTL : List Nat := runes ccT.data.toList
/-- The kind of a character. -/
def kindC (r : Int) : Int := if memI ccBL r then 1 else if memI ccSL r then 2 else if memI ccFL r then 3 else if memI ccTL r then 3 else 0
theorem basicL_len : basicL.length = 96 := rfl
theorem ccB_size : ccB.size = 109 := by decide +kernel
theorem ccS_size : ccS.size = 34 := by decide +kernel
theorem ccF_size : ccF.size = 68 := by decide +kernel
theorem ccT_size : ccT.size = 61 := by decide +kernel
theorem ccB_len : (runes ccB.data.toList).length = 96 := by decide +kernel
theorem ccS_len : (runes ccS.data.toList).length = 16 := by decide +kernel
theorem ccF_len : (runes ccF.data.toList).length = 32 := by decide +kernel
theorem ccT_len : (runes ccT.data.toList).length = 32 := by decide +kernel
theorem kind_bad : kindC 65533 = 0 := by decide +kernel
theorem basicN_at (i : Nat) (h : i < 96) : basicL.drop i = basicN (i + 32) :: basicL.drop (i + 1) := by
  rw [List.drop_eq_getElem_cons (by rw [basicL_len]; exact h)]
  simp [basicL]
theorem basicN_le (b : Nat) (h : b ≤ 127) : basicN b ≤ 1114111 := by
  unfold basicN
  repeat' split
  all_goals omega

set_option maxHeartbeats 4000000 in
theorem basic_any (b : Nat) (h : b ≤ 127) (w : World) : Calls Tryd.prog 138 #[.int .u8 b] w fun e w' => e = .returned (.int .i32 (basicN b)) ∧ w = w' := by
  by_cases h39 : b = 39
  · subst h39
    go_enter Tryd.func138, Tryd.ntmps138
    go_wp2
    go_ret
    exact ⟨rfl, rfl⟩
  by_cases h42 : b = 42
  · subst h42
    go_enter Tryd.func138, Tryd.ntmps138
    go_wp2
    go_ret
    exact ⟨rfl, rfl⟩
  by_cases h92 : b = 92
  · subst h92
    go_enter Tryd.func138, Tryd.ntmps138
    go_wp2
    go_ret
    exact ⟨rfl, rfl⟩
  by_cases h94 : b = 94
  · subst h94
    go_enter Tryd.func138, Tryd.ntmps138
    go_wp2
    go_ret
    exact ⟨rfl, rfl⟩
  by_cases h95 : b = 95
  · subst h95
    go_enter Tryd.func138, Tryd.ntmps138
    go_wp2
    go_ret
    exact ⟨rfl, rfl⟩
  by_cases h96 : b = 96
  · subst h96
    go_enter Tryd.func138, Tryd.ntmps138
    go_wp2
    go_ret
    exact ⟨rfl, rfl⟩
  by_cases h123 : b = 123
  · subst h123
    go_enter Tryd.func138, Tryd.ntmps138
    go_wp2
    go_ret
    exact ⟨rfl, rfl⟩
  by_cases h124 : b = 124
  · subst h124
    go_enter Tryd.func138, Tryd.ntmps138
    go_wp2
    go_ret
    exact ⟨rfl, rfl⟩
  by_cases h125 : b = 125
  · subst h125
    go_enter Tryd.func138, Tryd.ntmps138
    go_wp2
    go_ret
    exact ⟨rfl, rfl⟩
  by_cases h126 : b = 126
  · subst h126
    go_enter Tryd.func138, Tryd.ntmps138
    go_wp2
    go_ret
    exact ⟨rfl, rfl⟩
  by_cases h127 : b = 127
  · subst h127
    go_enter Tryd.func138, Tryd.ntmps138
    go_wp2
    go_ret
    exact ⟨rfl, rfl⟩
  have e : basicN b = b := by unfold basicN; simp [h39, h42, h92, h94, h95, h96, h123, h124, h125, h126, h127]
  rw [e]
  clear e
  have z39 : ((b : Int) == 39) = false := by simp; omega
  have z42 : ((b : Int) == 42) = false := by simp; omega
  have z92 : ((b : Int) == 92) = false := by simp; omega
  have z94 : ((b : Int) == 94) = false := by simp; omega
  have z95 : ((b : Int) == 95) = false := by simp; omega
  have z96 : ((b : Int) == 96) = false := by simp; omega
  have z123 : ((b : Int) == 123) = false := by simp; omega
  have z124 : ((b : Int) == 124) = false := by simp; omega
  have z125 : ((b : Int) == 125) = false := by simp; omega
  have z126 : ((b : Int) == 126) = false := by simp; omega
  have z127 : ((b : Int) == 127) = false := by simp; omega
  clear h39 h42 h92 h94 h95 h96 h123 h124 h125 h126 h127
  go_enter Tryd.func138, Tryd.ntmps138
  go_wp2
  go_ret
  exact ⟨ret_int (by rfl), rfl⟩
end Go.Proofs.YtheemefggkcfbaaDoor
