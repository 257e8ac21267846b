import Derived.Test.YtheemefggkcfbaaDoorRows
import Derived.Test.YtheemefggkcfbaaDoorT1
import Derived.WalkKit
import Derived.WalkSpells
import Derived.WalkLawsBesides
import Derived.BigQuiet
import Derived.Deep.QuietTactic
import Derived.Handy
import Derived.Lib.Hide
import Derived.Lib.Walk
import Derived.Laws.RangeString
import Derived.Laws.RangeAny
import Derived.LoopTactic
import Derived.Deep.DeepCutAuto
import Derived.Deep.RegionHeld3
namespace Go.Proofs.YtheemefggkcfbaaDoor
open Go Go.Lib Go.RowKit
theorem ret_bool {a b : Bool} (h : a = b) : Ending.returned (.bool a) = .returned (.bool b) := by rw [h]
theorem ret_int {k : IntKind} {a b : Int} (h : a = b) : Ending.returned (.int k a) = .returned (.int k b) := by rw [h]
theorem below1 {B : Nat} {w : World} (o : Obj) (h : B ≤ w.heap.size) : Below B w (w.alloc o) := (Below.refl _ _).alloc h _
theorem below_iter (w : World) (s : ByteArray) (pos : Nat) : Below w.heap.size w (w.iter s pos) := below1 _ (Nat.le_refl _)

set_option maxHeartbeats 4000000 in
set_option maxRecDepth 100000 in
theorem place_any (s : ByteArray) (r : Int) (w : World) (hs : s.size < 9223372036854775807) :
    Calls Tryd.prog 112 #[.string s, .int .i32 r] w fun e w' => e = .returned (.int .i64 (findR (runes s.data.toList) r 0)) ∧ Below w.heap.size w w' := by
  obtain ⟨Z, hZ⟩ : ∃ Z, findR (runes s.data.toList) r 0 = Z := ⟨_, rfl⟩
  rw [hZ]
  go_enter Tryd.func112, Tryd.ntmps112
  go_wp2
  go_loopw [5] (fun n w' => ∃ (pos acc : Nat), w' = w.iter s pos ∧ n = .int .i64 acc ∧ findR (runesAt s pos) r acc = Z ∧ acc ≤ pos ∧ pos ≤ s.size + 4) (fun _ w' => s.size - w'.iterPos w.heap.size)
  case atStart => exact ⟨0, 0, rfl, rfl, hZ, Nat.le_refl _, by omega⟩
  case round =>
    obtain ⟨pos, acc, rfl, rfl, hc, ha, hpl⟩ := hrel
    by_cases hp : pos < s.size
    · have hnx : ∀ ty, (Instr.next (.pointer (some ⟨w.heap.size, 0, none⟩)) true ty).run Tryd.prog (w.iter s pos) = _ := fun ty => run_next_any w s pos ty hp
      have hwd := Lib.decode_width_pos s pos hp
      have hwn : (Utf8.decode s pos).2 ≤ 4 := by
        rw [decode_N]; exact (decodeN_conts _ _ _ _ _).2.2.2
      rw [runesAt_step s pos hp] at hc
      unfold findR at hc
      by_cases hx : ((Utf8.decode s pos).1 : Int) = r
      · rw [if_pos hx] at hc
        go_wp2
        go_ret
        exact ⟨ret_int hc, below_iter _ _ _⟩
      · rw [if_neg hx] at hc
        go_wp2
        go_roundw
        case rel => exact ⟨pos + (Utf8.decode s pos).2, acc + 1, rfl, by go_num, by rw [← hc]; congr 1, by omega, by omega⟩
        case measure =>
          simp
          omega
    · have hnx : ∀ ty, (Instr.next (.pointer (some ⟨w.heap.size, 0, none⟩)) true ty).run Tryd.prog (w.iter s pos) = _ := fun ty => run_next_end w s pos ty hp
      rw [runesAt_end s pos hp] at hc
      go_wp2
      go_ret
      exact ⟨ret_int hc, below_iter _ _ _⟩
def allS : ByteArray := ⟨#[32, 33, 34, 35, 36, 37, 38, 39, 40, 41, 42, 43, 44, 45, 46, 47, 48, 49, 50, 51, 52, 53, 54, 55, 56, 57, 58, 59, 60, 61, 62, 63, 64, 65, 66, 67, 68, 69, 70, 71, 72, 73, 74, 75, 76, 77, 78, 79, 80, 81, 82, 83, 84, 85, 86, 87, 88, 89, 90, 91, 92, 93, 94, 95, 96, 97, 98, 99, 100, 101, 102, 103, 104, 105, 106, 107, 108, 109, 110, 111, 112, 113, 114, 115, 116, 117, 118, 119, 120, 121, 122, 123, 124, 125, 126, 194, 161, 194, 162, 194, 163, 194, 164, 194, 165, 194, 166, 194, 167, 194, 169, 194, 171, 194, 174, 194, 176, 194, 183, 194, 187, 194, 189, 194, 191, 195, 128, 195, 129, 195, 130, 195, 131, 195, 132, 195, 133, 195, 134, 195, 135, 195, 136, 195, 137, 195, 138, 195, 139, 195, 140, 195, 141, 195, 142, 195, 143, 195, 145, 195, 146, 195, 147, 195, 148, 195, 149, 195, 150, 195, 152, 195, 153, 195, 154, 195, 155, 195, 156, 195, 159, 195, 160, 195, 161, 195, 162, 195, 163, 195, 164, 195, 165, 195, 166, 195, 167, 195, 168, 195, 169, 195, 170, 195, 171, 195, 172, 195, 173, 195, 174, 195, 175, 195, 177, 195, 178, 195, 179, 195, 180, 195, 181, 195, 182, 195, 184, 195, 185, 195, 186, 195, 187, 195, 188, 197, 146, 197, 147, 226, 128, 148, 226, 128, 152, 226, 128, 153, 226, 128, 156, 226, 128, 157, 226, 128, 162, 226, 128, 166, 226, 132, 162, 226, 153, 170]⟩
theorem allS_list : allS.data.toList = allL := rfl
set_option maxRecDepth 100000 in
theorem allS_size : allS.size = 266 := rfl

set_option maxHeartbeats 4000000 in
set_option maxRecDepth 100000 in
theorem index_any (r : Int) (w : World) (h0 : 0 ≤ r) (h1 : r ≤ 1114111) :
    Calls Tryd.prog 90 #[.int .i32 r] w fun e w' => e = .returned (.int .i64 (idxR r)) ∧ Below w.heap.size w w' := by
  by_cases ha : 32 ≤ r
  · by_cases hb : r ≤ 126
    · have e : idxR r = r - 32 := by unfold idxR; rw [if_pos ⟨ha, hb⟩]
      rw [e]
      clear e
      go_enter Tryd.func90, Tryd.ntmps90
      go_wp2
      go_ret
      exact ⟨rfl, Below.refl _ _⟩
    · have e : idxR r = findR (runes allL) r 0 := by unfold idxR; rw [if_neg (by omega)]
      have c := place_any allS r w (by rw [allS_size]; decide)
      rw [allS_list, ← e] at c
      clear e
      go_enter Tryd.func90, Tryd.ntmps90
      go_wp2_with (refine (show Calls Tryd.prog 112 #[.string allS, .int .i32 r] w _ from c).mono ?_; rintro e w1 ⟨rfl, hb1⟩)
      go_ret
      exact ⟨rfl, hb1⟩
  · have e : idxR r = findR (runes allL) r 0 := by unfold idxR; rw [if_neg (by omega)]
    have c := place_any allS r w (by rw [allS_size]; decide)
    rw [allS_list, ← e] at c
    clear e
    go_enter Tryd.func90, Tryd.ntmps90
    go_wp2_with (refine (show Calls Tryd.prog 112 #[.string allS, .int .i32 r] w _ from c).mono ?_; rintro e w1 ⟨rfl, hb1⟩)
    go_ret
    exact ⟨rfl, hb1⟩

set_option maxRecDepth 100000 in
theorem repertoire_any (w : World) : Calls Tryd.prog 113 #[] w fun e w' => e = .returned (.string allS) ∧ w = w' := by
  go_enter Tryd.func113, Tryd.ntmps113
  go_wp2
  go_ret
  exact ⟨rfl, rfl⟩

set_option maxHeartbeats 4000000 in
set_option maxRecDepth 100000 in
theorem rindex_any (r : Int) (w : World) (h0 : 0 ≤ r) (h1 : r ≤ 1114111) :
    Calls Tryd.prog 91 #[.int .i32 r] w fun e w' => e = .returned (.int .i64 (idxR r)) ∧ Below w.heap.size w w' := by
  by_cases ha : 32 ≤ r
  · by_cases hb : r ≤ 126
    · have e : idxR r = r - 32 := by unfold idxR; rw [if_pos ⟨ha, hb⟩]
      rw [e]
      clear e
      go_enter Tryd.func91, Tryd.ntmps91
      go_wp2
      go_ret
      exact ⟨rfl, Below.refl _ _⟩
    · have hZ : findR (runesAt allS 0) r 0 = idxR r := by unfold idxR; rw [if_neg (by omega)]; rfl
      have hsz : allS.size < 9223372036854775807 := by rw [allS_size]; decide
      have c := repertoire_any w
      generalize allS = S at hZ hsz c
      generalize idxR r = Z at hZ ⊢
      go_enter Tryd.func91, Tryd.ntmps91
      go_wp2_with (refine c.mono ?_; rintro e w1 ⟨rfl, hw1⟩; subst hw1)
      go_loopw [3] (fun n w' => ∃ (pos acc : Nat), w' = w.iter S pos ∧ n = .int .i64 acc ∧ findR (runesAt S pos) r acc = Z ∧ acc ≤ pos ∧ pos ≤ S.size + 4) (fun _ w' => S.size - w'.iterPos w.heap.size)
      case atStart => exact ⟨0, 0, rfl, rfl, hZ, Nat.le_refl _, by omega⟩
      case round =>
        obtain ⟨pos, acc, rfl, rfl, hc, ha, hpl⟩ := hrel
        by_cases hp : pos < S.size
        · have hnx : ∀ ty, (Instr.next (.pointer (some ⟨w.heap.size, 0, none⟩)) true ty).run Tryd.prog (w.iter S pos) = _ := fun ty => run_next_any w S pos ty hp
          have hwd := Lib.decode_width_pos S pos hp
          have hwn : (Utf8.decode S pos).2 ≤ 4 := by
            rw [decode_N]; exact (decodeN_conts _ _ _ _ _).2.2.2
          rw [runesAt_step S pos hp] at hc
          unfold findR at hc
          by_cases hx : ((Utf8.decode S pos).1 : Int) = r
          · rw [if_pos hx] at hc
            go_wp2
            go_ret
            exact ⟨ret_int hc, below_iter _ _ _⟩
          · rw [if_neg hx] at hc
            go_wp2
            go_roundw
            case rel => exact ⟨pos + (Utf8.decode S pos).2, acc + 1, rfl, by go_num, by rw [← hc]; congr 1, by omega, by omega⟩
            case measure =>
              simp
              omega
        · have hnx : ∀ ty, (Instr.next (.pointer (some ⟨w.heap.size, 0, none⟩)) true ty).run Tryd.prog (w.iter S pos) = _ := fun ty => run_next_end w S pos ty hp
          rw [runesAt_end S pos hp] at hc
          go_wp2
          go_ret
          exact ⟨ret_int hc, below_iter _ _ _⟩
  · have hZ : findR (runesAt allS 0) r 0 = idxR r := by unfold idxR; rw [if_neg (by omega)]; rfl
    have hsz : allS.size < 9223372036854775807 := by rw [allS_size]; decide
    have c := repertoire_any w
    generalize allS = S at hZ hsz c
    generalize idxR r = Z at hZ ⊢
    go_enter Tryd.func91, Tryd.ntmps91
    go_wp2_with (refine c.mono ?_; rintro e w1 ⟨rfl, hw1⟩; subst hw1)
    go_loopw [3] (fun n w' => ∃ (pos acc : Nat), w' = w.iter S pos ∧ n = .int .i64 acc ∧ findR (runesAt S pos) r acc = Z ∧ acc ≤ pos ∧ pos ≤ S.size + 4) (fun _ w' => S.size - w'.iterPos w.heap.size)
    case atStart => exact ⟨0, 0, rfl, rfl, hZ, Nat.le_refl _, by omega⟩
    case round =>
      obtain ⟨pos, acc, rfl, rfl, hc, ha, hpl⟩ := hrel
      by_cases hp : pos < S.size
      · have hnx : ∀ ty, (Instr.next (.pointer (some ⟨w.heap.size, 0, none⟩)) true ty).run Tryd.prog (w.iter S pos) = _ := fun ty => run_next_any w S pos ty hp
        have hwd := Lib.decode_width_pos S pos hp
        have hwn : (Utf8.decode S pos).2 ≤ 4 := by
          rw [decode_N]; exact (decodeN_conts _ _ _ _ _).2.2.2
        rw [runesAt_step S pos hp] at hc
        unfold findR at hc
        by_cases hx : ((Utf8.decode S pos).1 : Int) = r
        · rw [if_pos hx] at hc
          go_wp2
          go_ret
          exact ⟨ret_int hc, below_iter _ _ _⟩
        · rw [if_neg hx] at hc
          go_wp2
          go_roundw
          case rel => exact ⟨pos + (Utf8.decode S pos).2, acc + 1, rfl, by go_num, by rw [← hc]; congr 1, by omega, by omega⟩
          case measure =>
            simp
            omega
      · have hnx : ∀ ty, (Instr.next (.pointer (some ⟨w.heap.size, 0, none⟩)) true ty).run Tryd.prog (w.iter S pos) = _ := fun ty => run_next_end w S pos ty hp
        rw [runesAt_end S pos hp] at hc
        go_wp2
        go_ret
        exact ⟨ret_int hc, below_iter _ _ _⟩
end Go.Proofs.YtheemefggkcfbaaDoor
