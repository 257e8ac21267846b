import Derived.Lib.TrimUEq
import Derived.Lib.SpaceUEq
import Derived.Lib.ValidLaws
import Derived.Lib.RuneCount
import Derived.Laws.RangeAny
import Derived.Test.YtgiaohccebolpaaGreatDoorRows
import Derived.WalkKit
import Derived.WalkSpells
import Derived.WalkLawsBesides
import Derived.BigQuiet
import Derived.Deep.QuietTactic
import Derived.Handy
import Derived.Lib.Hide
import Derived.Lib.Walk
import Derived.Laws.RangeString
import Derived.LoopTactic
import Derived.Deep.DeepCutAuto
import Derived.Deep.RegionHeld3
import Derived.Deep.WholeRow
namespace Go.Proofs.YtgiaohccebolpaaGreatDoor
open Go Go.Lib

/-! ### runes of a string -/
def runesGo : Nat → List UInt8 → List Nat
  | 0, _ => []
  | f + 1, l => if l = [] then [] else (decodeL l).1 :: runesGo f (l.drop (decodeL l).2)
def runes (l : List UInt8) : List Nat := runesGo l.length l
theorem runesGo_nil : ∀ n, runesGo n [] = []
  | 0 => rfl
  | _ + 1 => by simp [runesGo]
theorem runesGo_fuel : ∀ (n m : Nat) (l : List UInt8), l.length ≤ n → l.length ≤ m → runesGo n l = runesGo m l
  | 0, m, l, hn, _ => by
    have : l = [] := List.eq_nil_of_length_eq_zero (by omega)
    subst this; rw [runesGo_nil, runesGo_nil]
  | n + 1, 0, l, _, hm => by
    have : l = [] := List.eq_nil_of_length_eq_zero (by omega)
    subst this; rw [runesGo_nil, runesGo_nil]
  | n + 1, m + 1, l, hn, hm => by
    unfold runesGo
    by_cases hne : l = []
    · simp [hne]
    · have hw := decodeL_width l
      have hl : 0 < l.length := List.length_pos_iff.2 hne
      rw [if_neg hne, if_neg hne, runesGo_fuel n m (l.drop (decodeL l).2) (by rw [List.length_drop]; omega) (by rw [List.length_drop]; omega)]
theorem runes_nil : runes [] = [] := rfl
theorem runes_step (l : List UInt8) (hne : l ≠ []) : runes l = (decodeL l).1 :: runes (l.drop (decodeL l).2) := by
  have hl : 0 < l.length := List.length_pos_iff.2 hne
  have hw := decodeL_width l
  obtain ⟨n, hn⟩ : ∃ n, l.length = n + 1 := ⟨l.length - 1, by omega⟩
  unfold runes
  rw [hn]
  show (if l = [] then [] else _) = _
  rw [if_neg hne, runesGo_fuel n (l.drop (decodeL l).2).length _ (by rw [List.length_drop]; omega) (Nat.le_refl _)]
theorem runes_ascii (b : UInt8) (t : List UInt8) (h : b.toNat < 128) : runes (b :: t) = b.toNat :: runes t := by
  rw [runes_step _ (by simp), decodeL_ascii b t h]; simp
theorem runes_length (l : List UInt8) : (runes l).length ≤ l.length := by
  have : ∀ n l, (runesGo n l).length ≤ n := by
    intro n
    induction n with
    | zero => intro l; simp [runesGo]
    | succ n ih => intro l; unfold runesGo; split <;> simp; exact ih _
  exact this _ _
def runesAt (s : ByteArray) (pos : Nat) : List Nat := runes (s.data.toList.drop pos)
theorem runesAt_step (s : ByteArray) (pos : Nat) (h : pos < s.size) : runesAt s pos = (Utf8.decode s pos).1 :: runesAt s (pos + (Utf8.decode s pos).2) := by
  unfold runesAt
  have hne : s.data.toList.drop pos ≠ [] := by
    intro h0
    have := congrArg List.length h0
    rw [List.length_drop, ← size_eq] at this
    simp at this; omega
  rw [runes_step _ hne, decodeL_drop, List.drop_drop]
theorem runesAt_end (s : ByteArray) (pos : Nat) (h : ¬ pos < s.size) : runesAt s pos = [] := by
  unfold runesAt
  rw [List.drop_eq_nil_of_le (by rw [← size_eq]; omega)]; rfl
theorem runesAt_zero (s : ByteArray) : runesAt s 0 = runes s.data.toList := rfl
theorem runesAt_len (s : ByteArray) (pos : Nat) : (runesAt s pos).length ≤ s.size - pos := by
  have := runes_length (s.data.toList.drop pos)
  rw [List.length_drop, ← size_eq] at this
  exact this
theorem runeCountFrom_runes (s : ByteArray) : ∀ (f pos : Nat), s.size ≤ pos + f → Lib.runeCountFrom s f pos = (runesAt s pos).length
  | 0, pos, h => by rw [runesAt_end s pos (by omega)]; rfl
  | f + 1, pos, h => by
    unfold Lib.runeCountFrom
    by_cases hp : pos < s.size
    · have := Lib.decode_width_pos s pos hp
      rw [if_pos hp, runesAt_step s pos hp, runeCountFrom_runes s f _ (by omega), List.length_cons]; omega
    · rw [if_neg hp, runesAt_end s pos hp]; rfl
theorem runeCount_runes (s : ByteArray) : Lib.runeCount s = (runes s.data.toList).length := runeCountFrom_runes s s.size 0 (by omega)

/-! ### the repertoire -/
def allL : List UInt8 := [32, 33, 34, 35, 36, 37, 38, 39, 40, 41, 42, 43, 44, 45, 46, 47, 48, 49, 50, 51, 52, 53, 54, 55, 56, 57, 58, 59, 60, 61, 62, 63, 64, 65, 66, 67, 68, 69, 70, 71, 72, 73, 74, 75, 76, 77, 78, 79, 80, 81, 82, 83, 84, 85, 86, 87, 88, 89, 90, 91, 92, 93, 94, 95, 96, 97, 98, 99, 100, 101, 102, 103, 104, 105, 106, 107, 108, 109, 110, 111, 112, 113, 114, 115, 116, 117, 118, 119, 120, 121, 122, 123, 124, 125, 126, 194, 161, 194, 162, 194, 163, 194, 164, 194, 165, 194, 166, 194, 167, 194, 169, 194, 171, 194, 174, 194, 176, 194, 183, 194, 187, 194, 189, 194, 191, 195, 128, 195, 129, 195, 130, 195, 131, 195, 132, 195, 133, 195, 134, 195, 135, 195, 136, 195, 137, 195, 138, 195, 139, 195, 140, 195, 141, 195, 142, 195, 143, 195, 145, 195, 146, 195, 147, 195, 148, 195, 149, 195, 150, 195, 152, 195, 153, 195, 154, 195, 155, 195, 156, 195, 159, 195, 160, 195, 161, 195, 162, 195, 163, 195, 164, 195, 165, 195, 166, 195, 167, 195, 168, 195, 169, 195, 170, 195, 171, 195, 172, 195, 173, 195, 174, 195, 175, 195, 177, 195, 178, 195, 179, 195, 180, 195, 181, 195, 182, 195, 184, 195, 185, 195, 186, 195, 187, 195, 188, 197, 146, 197, 147, 226, 128, 148, 226, 128, 152, 226, 128, 153, 226, 128, 156, 226, 128, 157, 226, 128, 162, 226, 128, 166, 226, 132, 162, 226, 153, 170]
def findR : List Nat → Int → Int → Int
  | [], _, _ => -1
  | x :: t, r, n => if (x : Int) = r then n else findR t r (n + 1)
theorem findR_ge : ∀ (l : List Nat) (r n : Int), 0 ≤ n → -1 ≤ findR l r n ∧ findR l r n ≤ n + l.length
  | [], r, n, h => by simp [findR]; omega
  | x :: t, r, n, h => by
    unfold findR
    split
    · simp; omega
    · have := findR_ge t r (n + 1) (by omega)
      simp; omega
/-- Index of charset. -/
def idxR (r : Int) : Int := if 32 ≤ r ∧ r ≤ 126 then r - 32 else findR (runes allL) r 0
/-- A character of the repertoire. -/
def inR (r : Nat) : Bool := decide (0 ≤ idxR r)
theorem inR_bad : inR 65533 = false := by decide +kernel
theorem inR_space : inR 32 = true := by decide +kernel
theorem inR_lf : inR 10 = false := by decide +kernel
/-- Valid of charset. -/
def validC (l : List UInt8) : Bool := (runes l).all inR
theorem validC_validD : ∀ (n : Nat) (l : List UInt8), l.length ≤ n → validC l = true → validD l = true
  | n, [], _, _ => rfl
  | 0, _ :: _, h, _ => by simp at h
  | n + 1, b :: t, hl, h => by
    have hne : b :: t ≠ [] := by simp
    have hw := decodeL_width (b :: t)
    unfold validC at h
    rw [runes_step _ hne] at h
    simp only [List.all_cons, Bool.and_eq_true] at h
    rw [validD_step _ hne, if_neg]
    · exact validC_validD n _ (by rw [List.length_drop]; simp at hl ⊢; omega) h.2
    · rintro ⟨h1, _⟩
      rw [h1, inR_bad] at h
      simp at h
theorem validD_false {l : List UInt8} (h : validD l = false) : validC l = false := by
  cases h' : validC l with
  | false => rfl
  | true => rw [validC_validD _ l (Nat.le_refl _) h'] at h; cases h
/-- Len of charset. -/
def lenC (l : List UInt8) : Int := if validC l = true then (runes l).length else -1

end Go.Proofs.YtgiaohccebolpaaGreatDoor
namespace Go.Proofs.YtgiaohccebolpaaGreatDoor
open Go Go.Lib Go.RowKit
theorem ret_bool {a b : Bool} (h : a = b) : Ending.returned (.bool a) = .returned (.bool b) := by rw [h]
theorem ret_int {k : IntKind} {a b : Int} (h : a = b) : Ending.returned (.int k a) = .returned (.int k b) := by rw [h]
theorem below1 {B : Nat} {w : World} (o : Obj) (h : B ≤ w.heap.size) : Below B w (w.alloc o) := (Below.refl _ _).alloc h _
theorem below_iter (w : World) (s : ByteArray) (pos : Nat) : Below w.heap.size w (w.iter s pos) := below1 _ (Nat.le_refl _)

set_option maxHeartbeats 4000000 in
set_option maxRecDepth 100000 in
theorem place_any (s : ByteArray) (r : Int) (w : World) (hs : s.size < 9223372036854775807) :
    Calls Tryz.prog 126 #[.string s, .int .i32 r] w fun e w' => e = .returned (.int .i64 (findR (runes s.data.toList) r 0)) ∧ Below w.heap.size w w' := by
  obtain ⟨Z, hZ⟩ : ∃ Z, findR (runes s.data.toList) r 0 = Z := ⟨_, rfl⟩
  rw [hZ]
  go_enter Tryz.func126, Tryz.ntmps126
  go_wp2
  go_loopw [5] (fun n w' => ∃ (pos acc : Nat), w' = w.iter s pos ∧ n = .int .i64 acc ∧ findR (runesAt s pos) r acc = Z ∧ acc ≤ pos ∧ pos ≤ s.size + 4) (fun _ w' => s.size - w'.iterPos w.heap.size)
  case atStart => exact ⟨0, 0, rfl, rfl, hZ, Nat.le_refl _, by omega⟩
  case round =>
    obtain ⟨pos, acc, rfl, rfl, hc, ha, hpl⟩ := hrel
    by_cases hp : pos < s.size
    · have hnx : ∀ ty, (Instr.next (.pointer (some ⟨w.heap.size, 0, none⟩)) true ty).run Tryz.prog (w.iter s pos) = _ := fun ty => run_next_any w s pos ty hp
      have hwd := Lib.decode_width_pos s pos hp
      have hwn : (Utf8.decode s pos).2 ≤ 4 := by
        rw [decode_N]; exact (decodeN_conts _ _ _ _ _).2.2.2
      rw [runesAt_step s pos hp] at hc
      unfold findR at hc
      by_cases hx : ((Utf8.decode s pos).1 : Int) = r
      · rw [if_pos hx] at hc
        go_wp2
        go_ret
        exact ⟨ret_int hc, below_iter _ _ _⟩
      · rw [if_neg hx] at hc
        go_wp2
        go_roundw
        case rel => exact ⟨pos + (Utf8.decode s pos).2, acc + 1, rfl, by go_num, by rw [← hc]; congr 1, by omega, by omega⟩
        case measure =>
          simp
          omega
    · have hnx : ∀ ty, (Instr.next (.pointer (some ⟨w.heap.size, 0, none⟩)) true ty).run Tryz.prog (w.iter s pos) = _ := fun ty => run_next_end w s pos ty hp
      rw [runesAt_end s pos hp] at hc
      go_wp2
      go_ret
      exact ⟨ret_int hc, below_iter _ _ _⟩
def allS : ByteArray := ⟨#[32, 33, 34, 35, 36, 37, 38, 39, 40, 41, 42, 43, 44, 45, 46, 47, 48, 49, 50, 51, 52, 53, 54, 55, 56, 57, 58, 59, 60, 61, 62, 63, 64, 65, 66, 67, 68, 69, 70, 71, 72, 73, 74, 75, 76, 77, 78, 79, 80, 81, 82, 83, 84, 85, 86, 87, 88, 89, 90, 91, 92, 93, 94, 95, 96, 97, 98, 99, 100, 101, 102, 103, 104, 105, 106, 107, 108, 109, 110, 111, 112, 113, 114, 115, 116, 117, 118, 119, 120, 121, 122, 123, 124, 125, 126, 194, 161, 194, 162, 194, 163, 194, 164, 194, 165, 194, 166, 194, 167, 194, 169, 194, 171, 194, 174, 194, 176, 194, 183, 194, 187, 194, 189, 194, 191, 195, 128, 195, 129, 195, 130, 195, 131, 195, 132, 195, 133, 195, 134, 195, 135, 195, 136, 195, 137, 195, 138, 195, 139, 195, 140, 195, 141, 195, 142, 195, 143, 195, 145, 195, 146, 195, 147, 195, 148, 195, 149, 195, 150, 195, 152, 195, 153, 195, 154, 195, 155, 195, 156, 195, 159, 195, 160, 195, 161, 195, 162, 195, 163, 195, 164, 195, 165, 195, 166, 195, 167, 195, 168, 195, 169, 195, 170, 195, 171, 195, 172, 195, 173, 195, 174, 195, 175, 195, 177, 195, 178, 195, 179, 195, 180, 195, 181, 195, 182, 195, 184, 195, 185, 195, 186, 195, 187, 195, 188, 197, 146, 197, 147, 226, 128, 148, 226, 128, 152, 226, 128, 153, 226, 128, 156, 226, 128, 157, 226, 128, 162, 226, 128, 166, 226, 132, 162, 226, 153, 170]⟩
theorem allS_list : allS.data.toList = allL := rfl
set_option maxRecDepth 100000 in
theorem allS_size : allS.size = 266 := rfl

set_option maxHeartbeats 4000000 in
set_option maxRecDepth 100000 in
theorem index_any (r : Int) (w : World) (h0 : 0 ≤ r) (h1 : r ≤ 1114111) :
    Calls Tryz.prog 107 #[.int .i32 r] w fun e w' => e = .returned (.int .i64 (idxR r)) ∧ Below w.heap.size w w' := by
  by_cases ha : 32 ≤ r
  · by_cases hb : r ≤ 126
    · have e : idxR r = r - 32 := by unfold idxR; rw [if_pos ⟨ha, hb⟩]
      rw [e]
      clear e
      go_enter Tryz.func107, Tryz.ntmps107
      go_wp2
      go_ret
      exact ⟨rfl, Below.refl _ _⟩
    · have e : idxR r = findR (runes allL) r 0 := by unfold idxR; rw [if_neg (by omega)]
      have c := place_any allS r w (by rw [allS_size]; decide)
      rw [allS_list, ← e] at c
      clear e
      go_enter Tryz.func107, Tryz.ntmps107
      go_wp2_with (refine (show Calls Tryz.prog 126 #[.string allS, .int .i32 r] w _ from c).mono ?_; rintro e w1 ⟨rfl, hb1⟩)
      go_ret
      exact ⟨rfl, hb1⟩
  · have e : idxR r = findR (runes allL) r 0 := by unfold idxR; rw [if_neg (by omega)]
    have c := place_any allS r w (by rw [allS_size]; decide)
    rw [allS_list, ← e] at c
    clear e
    go_enter Tryz.func107, Tryz.ntmps107
    go_wp2_with (refine (show Calls Tryz.prog 126 #[.string allS, .int .i32 r] w _ from c).mono ?_; rintro e w1 ⟨rfl, hb1⟩)
    go_ret
    exact ⟨rfl, hb1⟩

end Go.Proofs.YtgiaohccebolpaaGreatDoor
namespace Go.Proofs.YtgiaohccebolpaaGreatDoor
open Go Go.Lib Go.RowKit
/-! ### frame rates -/
def ticksOf : Nat → Int
  | 1 => 5005 | 2 => 5000 | 3 => 4800 | 4 => 4004 | 5 => 4000 | 6 => 2400 | 7 => 2002 | _ => 0
def dropOf : Nat → Bool
  | 4 => true | 7 => true | _ => false
def nomOf : Nat → Int
  | 1 => 24 | 2 => 24 | 3 => 25 | 4 => 30 | 5 => 30 | 6 => 50 | 7 => 60 | _ => 0
def rnameOf : Nat → ByteArray
  | 1 => ⟨#[50, 51, 46, 57, 55, 54]⟩ | 2 => ⟨#[50, 52]⟩ | 3 => ⟨#[50, 53]⟩ | 4 => ⟨#[50, 57, 46, 57, 55]⟩ | 5 => ⟨#[51, 48]⟩ | 6 => ⟨#[53, 48]⟩ | 7 => ⟨#[53, 57, 46, 57, 52]⟩ | _ => ⟨#[]⟩
def rcells4 (r : Nat) : List Value := [.string (rnameOf r), .int .i64 (ticksOf r), .int .i64 (nomOf r), .bool (dropOf r)]
def rateV (r : Nat) : Value := .agg #[.string (rnameOf r), .int .i64 (ticksOf r), .int .i64 (nomOf r), .bool (dropOf r)]
def tabF : Array Value := ((List.range 8).flatMap rcells4).toArray
def tab0 : Array Value := ((List.range 8).flatMap fun _ => rcells4 0).toArray
theorem tab_at (r j : Nat) (hr : r < 8) (hj : j < 4) : tabF[r * 4 + j]? = (rcells4 r)[j]? := by
  have h : ∀ r : Fin 8, ∀ j : Fin 4, tabF[r.val * 4 + j.val]? = (rcells4 r.val)[j.val]? := by
    intro r j
    match r, j with
    | ⟨0, _⟩, ⟨0, _⟩ => rfl | ⟨0, _⟩, ⟨1, _⟩ => rfl | ⟨0, _⟩, ⟨2, _⟩ => rfl | ⟨0, _⟩, ⟨3, _⟩ => rfl
    | ⟨1, _⟩, ⟨0, _⟩ => rfl | ⟨1, _⟩, ⟨1, _⟩ => rfl | ⟨1, _⟩, ⟨2, _⟩ => rfl | ⟨1, _⟩, ⟨3, _⟩ => rfl
    | ⟨2, _⟩, ⟨0, _⟩ => rfl | ⟨2, _⟩, ⟨1, _⟩ => rfl | ⟨2, _⟩, ⟨2, _⟩ => rfl | ⟨2, _⟩, ⟨3, _⟩ => rfl
    | ⟨3, _⟩, ⟨0, _⟩ => rfl | ⟨3, _⟩, ⟨1, _⟩ => rfl | ⟨3, _⟩, ⟨2, _⟩ => rfl | ⟨3, _⟩, ⟨3, _⟩ => rfl
    | ⟨4, _⟩, ⟨0, _⟩ => rfl | ⟨4, _⟩, ⟨1, _⟩ => rfl | ⟨4, _⟩, ⟨2, _⟩ => rfl | ⟨4, _⟩, ⟨3, _⟩ => rfl
    | ⟨5, _⟩, ⟨0, _⟩ => rfl | ⟨5, _⟩, ⟨1, _⟩ => rfl | ⟨5, _⟩, ⟨2, _⟩ => rfl | ⟨5, _⟩, ⟨3, _⟩ => rfl
    | ⟨6, _⟩, ⟨0, _⟩ => rfl | ⟨6, _⟩, ⟨1, _⟩ => rfl | ⟨6, _⟩, ⟨2, _⟩ => rfl | ⟨6, _⟩, ⟨3, _⟩ => rfl
    | ⟨7, _⟩, ⟨0, _⟩ => rfl | ⟨7, _⟩, ⟨1, _⟩ => rfl | ⟨7, _⟩, ⟨2, _⟩ => rfl | ⟨7, _⟩, ⟨3, _⟩ => rfl
  exact h ⟨r, hr⟩ ⟨j, hj⟩
theorem blk_set {w : World} {b o : Nat} {cs : Array Value} {E : TypeId} {u : Value} (h : w.heap[b]? = some (.cells cs E (0, 0))) : (w.setCell ⟨b, o, none⟩ u).heap[b]? = some (.cells (cs.setIfInBounds o u) E (0, 0)) :=
  heap_setCell_same w b o cs E u h
theorem set4 {w : World} {b : Nat} {E : TypeId} {a0 a1 a2 a3 x0 x1 x2 x3 : Value} (h : w.heap[b]? = some (.cells #[a0, a1, a2, a3] E (0, 0))) :
    ((((w.setCell ⟨b, 0, none⟩ x0).setCell ⟨b, 1, none⟩ x1).setCell ⟨b, 2, none⟩ x2).setCell ⟨b, 3, none⟩ x3).heap[b]? = some (.cells #[x0, x1, x2, x3] E (0, 0)) :=
  blk_set (blk_set (blk_set (blk_set h)))
abbrev resA : Obj := .cells #[.string ⟨#[]⟩, .int .i64 0, .int .i64 0, .bool false] 86
/-- The world behind the table. -/
structure Tabbed (w W : World) : Prop where
  at4 : ∀ (r j : Nat) v, r < 8 → (rcells4 r)[j]? = some v → W.cell? ⟨w.heap.size + 1, r * 4 + j, none⟩ = some v
  c0 : W.cell? ⟨w.heap.size, 0, none⟩ = some (.string ⟨#[]⟩)
  c1 : W.cell? ⟨w.heap.size, 1, none⟩ = some (.int .i64 0)
  c2 : W.cell? ⟨w.heap.size, 2, none⟩ = some (.int .i64 0)
  c3 : W.cell? ⟨w.heap.size, 3, none⟩ = some (.bool false)
  f : ∀ j, W.frozen? ⟨w.heap.size, j, none⟩ = false
  blk : W.heap[w.heap.size]? = some (.cells #[.string ⟨#[]⟩, .int .i64 0, .int .i64 0, .bool false] 86 (0, 0))
  b : Below w.heap.size w W
theorem tabbed (w : World) : Tabbed w (((w.alloc resA).alloc (.cells tab0 118)).setRow (w.heap.size + 1) tabF) := by
  have e := World.setRow_alloc_new (w.alloc resA) tab0 tabF 118
  rw [World.size_alloc] at e
  rw [e]
  have h0 : ∀ j, ((w.alloc resA).alloc (.cells tabF 118)).cell? ⟨w.heap.size, j, none⟩ = (#[Value.string ⟨#[]⟩, .int .i64 0, .int .i64 0, .bool false] : Array Value)[j]? := fun j =>
    cell_of_row _ _ j _ 86 (0, 0) (heap_alloc2_old w _ _)
  refine ⟨fun r j v hr hj => ?_, by rw [h0]; rfl, by rw [h0]; rfl, by rw [h0]; rfl, by rw [h0]; rfl, fun j => frozen_of_row _ _ j _ 86 (heap_alloc2_old w _ _), heap_alloc2_old w _ _, ((Below.refl _ _).alloc (Nat.le_refl _) _).alloc (by simp) _⟩
  rw [cell_of_row _ _ _ _ 118 (0, 0) (heap_alloc2_new w _ _)]
  have hj4 : j < 4 := by
    have := (List.getElem?_eq_some_iff.1 hj).1
    simpa [rcells4] using this
  rw [tab_at r j hr hj4, hj]
set_option maxHeartbeats 4000000 in
set_option maxRecDepth 100000 in
theorem of_small (r : Nat) (h8 : r < 8) (w : World) : Calls Tryz.prog 29 #[.int .u8 (r : Int)] w fun e w' => e = .returned (rateV r) ∧ Below w.heap.size w w' := by
  obtain ⟨h4, c0, c1, c2, c3, hf, hblk, hb⟩ := tabbed w
  have h8z : ¬ (8 : Int) ≤ (r : Int) := by omega
  have h8y : (r : Int) < 8 := by omega
  have h80 : (0 : Int) ≤ (r : Int) := by omega
  have k0 := h4 r 0 _ h8 rfl
  have k1 := h4 r 1 _ h8 rfl
  have k2 := h4 r 2 _ h8 rfl
  have k3 := h4 r 3 _ h8 rfl
  simp only [Nat.add_zero] at k0
  clear h4
  have hz := hb.size
  have HB := Lib.hid hblk
  clear hblk
  unfold rateV
  generalize rnameOf r = a0 at *
  generalize ticksOf r = a1 at *
  generalize nomOf r = a2 at *
  generalize dropOf r = a3 at *
  go_enter Tryz.func29, Tryz.ntmps29
  go_upto_region 2 with (refine wpList_store_row rfl 118 _ _ rfl (w.heap.size + 1) tabF (by rfl) (by rfl) 118 tab0 (heap_alloc2_new w _ _) (by kernel_rfl) (by rfl) (by decide +kernel) ?_)
  change Code.wp _ _ _ _ (((w.alloc resA).alloc (.cells tab0 118)).setRow (w.heap.size + 1) tabF)
  generalize ((w.alloc resA).alloc (.cells tab0 118)).setRow (w.heap.size + 1) tabF = W at *
  go_wp2_with fail
  exact bodyPost_ret (results_cell_row Tryz.results29 _ _ _ _ _ _ _ rfl (set4 HB.out) Tryz.underlying86 rfl (by kernel_rfl)) rfl ⟨rfl, (((hb.setCell (Nat.le_refl _) _).setCell (Nat.le_refl _) _).setCell (Nat.le_refl _) _).setCell (Nat.le_refl _) _⟩
set_option maxHeartbeats 4000000 in
set_option maxRecDepth 100000 in
theorem of_big (r : Nat) (h : 8 ≤ r) (hr : r < 256) (w : World) : Calls Tryz.prog 29 #[.int .u8 (r : Int)] w fun e w' => e = .returned (.agg #[.string ⟨#[]⟩, .int .i64 0, .int .i64 0, .bool false]) ∧ Below w.heap.size w w' := by
  obtain ⟨h4, c0, c1, c2, c3, hf, hblk, hb⟩ := tabbed w
  clear h4
  have h8z : (8 : Int) ≤ (r : Int) := by omega
  have hz := hb.size
  have HB := Lib.hid hblk
  clear hblk
  go_enter Tryz.func29, Tryz.ntmps29
  go_upto_region 2 with (refine wpList_store_row rfl 118 _ _ rfl (w.heap.size + 1) tabF (by rfl) (by rfl) 118 tab0 (heap_alloc2_new w _ _) (by kernel_rfl) (by rfl) (by decide +kernel) ?_)
  change Code.wp _ _ _ _ (((w.alloc resA).alloc (.cells tab0 118)).setRow (w.heap.size + 1) tabF)
  generalize ((w.alloc resA).alloc (.cells tab0 118)).setRow (w.heap.size + 1) tabF = W at *
  go_wp2_with fail
  exact bodyPost_ret (results_cell_row Tryz.results29 _ _ _ _ _ _ _ rfl (set4 HB.out) Tryz.underlying86 rfl (by kernel_rfl)) rfl ⟨rfl, (((hb.setCell (Nat.le_refl _) _).setCell (Nat.le_refl _) _).setCell (Nat.le_refl _) _).setCell (Nat.le_refl _) _⟩
end Go.Proofs.YtgiaohccebolpaaGreatDoor
namespace Go.Proofs.YtgiaohccebolpaaGreatDoor
open Go Go.Lib Go.RowKit
theorem rateV_big (r : Nat) (h : 8 ≤ r) : rateV r = .agg #[.string ⟨#[]⟩, .int .i64 0, .int .i64 0, .bool false] := by
  match r, h with
  | n + 8, _ => rfl
theorem of_any (r : Nat) (hr : r < 256) (w : World) : Calls Tryz.prog 29 #[.int .u8 (r : Int)] w fun e w' => e = .returned (.agg #[.string (rnameOf r), .int .i64 (ticksOf r), .int .i64 (nomOf r), .bool (dropOf r)]) ∧ Below w.heap.size w w' := by
  by_cases h : r < 8
  · exact of_small r h w
  · have := of_big r (by omega) hr w
    rw [← rateV_big r (by omega)] at this
    exact this
/-- A frame rate of the seven. -/
def okRate (r : Nat) : Bool := decide (0 < ticksOf r)
theorem ticks_cases (r : Nat) : (ticksOf r = 0 ∧ okRate r = false) ∨ (2002 ≤ ticksOf r ∧ ticksOf r ≤ 5005 ∧ okRate r = true) := by
  match r with
  | 0 => left; decide
  | 1 => right; decide
  | 2 => right; decide
  | 3 => right; decide
  | 4 => right; decide
  | 5 => right; decide
  | 6 => right; decide
  | 7 => right; decide
  | n + 8 => left; exact ⟨rfl, rfl⟩
theorem fld1 (w : World) (a0 a1 a2 a3 : Value) (h : a1.oneCell' = true) : (Instr.field 86 (.agg #[a0, a1, a2, a3]) 1).run Tryz.prog w = .ok a1 w := by
  cases a1 <;> first | kernel_rfl | simp_all [Value.oneCell']
theorem fld3 (w : World) (a0 a1 a2 a3 : Value) (h : a3.oneCell' = true) : (Instr.field 86 (.agg #[a0, a1, a2, a3]) 3).run Tryz.prog w = .ok a3 w := by
  cases a3 <;> first | kernel_rfl | simp_all [Value.oneCell']
set_option maxHeartbeats 4000000 in
set_option maxRecDepth 100000 in
theorem valid_rate (r : Nat) (hr : r < 256) (w : World) : Calls Tryz.prog 11 #[.int .u8 (r : Int)] w fun e w' => e = .returned (.bool (okRate r)) ∧ Below w.heap.size w w' := by
  have c := fun w => of_any r hr w
  unfold okRate
  generalize ticksOf r = T at *
  have hfd := fun w => fld1 w (.string (rnameOf r)) (.int .i64 T) (.int .i64 (nomOf r)) (.bool (dropOf r)) rfl
  go_enter Tryz.func11, Tryz.ntmps11
  go_wp2_with fail
  refine (c _).mono ?_
  rintro e w1 ⟨rfl, hb⟩
  go_wp2_with fail
  go_ret
  exact ⟨rfl, hb⟩
set_option maxHeartbeats 4000000 in
set_option maxRecDepth 100000 in
theorem candrop_any (r : Nat) (hr : r < 256) (w : World) : Calls Tryz.prog 12 #[.int .u8 (r : Int)] w fun e w' => e = .returned (.bool (dropOf r)) ∧ Below w.heap.size w w' := by
  have c := fun w => of_any r hr w
  generalize dropOf r = T at *
  have hfd := fun w => fld3 w (.string (rnameOf r)) (.int .i64 (ticksOf r)) (.int .i64 (nomOf r)) (.bool T) rfl
  go_enter Tryz.func12, Tryz.ntmps12
  go_wp2_with fail
  refine (c _).mono ?_
  rintro e w1 ⟨rfl, hb⟩
  go_wp2_with fail
  go_ret
  exact ⟨rfl, hb⟩
set_option maxHeartbeats 4000000 in
set_option maxRecDepth 100000 in
theorem ticks_any (r : Nat) (hr : r < 256) (w : World) : Calls Tryz.prog 94 #[.int .u8 (r : Int)] w fun e w' => e = .returned (.int .i64 (ticksOf r)) ∧ Below w.heap.size w w' := by
  have c := fun w => of_any r hr w
  generalize ticksOf r = T at *
  have hfd := fun w => fld1 w (.string (rnameOf r)) (.int .i64 T) (.int .i64 (nomOf r)) (.bool (dropOf r)) rfl
  go_enter Tryz.func94, Tryz.ntmps94
  go_wp2_with fail
  refine (c _).mono ?_
  rintro e w1 ⟨rfl, hb⟩
  go_wp2_with fail
  go_ret
  exact ⟨rfl, hb⟩
theorem quiet_add_left {P : Program} {f : FuncId} {args : Array Value} {w : World} {a n : Nat} {v : Value}
    (h : Calls P f args (w.drewN (a + n)) fun e w' => e = .returned v ∧ w.drewN (a + n) = w') : Calls P f args (w.drewN (a + n)) fun e w'' => e = .returned v ∧ ∃ m, w'' = w.drewN (a + m) :=
  h.mono fun _ _ ⟨he, hm⟩ => ⟨he, n, hm.symm⟩
theorem quiet_left {P : Program} {f : FuncId} {args : Array Value} {w : World} {n : Nat} {v : Value}
    (h : Calls P f args (w.drewN n) fun e w' => e = .returned v ∧ w.drewN n = w') : Calls P f args (w.drewN n) fun e w'' => e = .returned v ∧ ∃ m, w'' = w.drewN m :=
  h.mono fun _ _ ⟨he, hm⟩ => ⟨he, n, hm.symm⟩
/-! ### the rounded quotient -/
theorem known_any (w : World) : Calls Tryz.prog 112 #[.int .u8 2] w fun e w' => e = .returned (.bool true) ∧ w = w' := by
  go_enter Tryz.func112, Tryz.ntmps112
  go_wp2
  go_ret
  exact ⟨rfl, rfl⟩
theorem size_any (a : Int) (w : World) (h : 0 ≤ a) (h2 : a ≤ 9223372036854775807) : Calls Tryz.prog 113 #[.int .i64 a] w fun e w' => e = .returned (.int .u64 a) ∧ w' = w := by
  have h1 : ¬ a < 0 := by omega
  go_enter Tryz.func113, Tryz.ntmps113
  go_wp2
  go_ret
  exact ⟨rfl, rfl⟩
def quo (n d : Int) : Int := n / d + if d ≤ 2 * (n % d) then 1 else 0
set_option maxHeartbeats 4000000 in
set_option maxRecDepth 100000 in
theorem away_any (r d : Int) (w : World) (h0 : 0 ≤ r) (h1 : r < d) (h2 : d ≤ 1000000) : Calls Tryz.prog 114 #[.bool false, .int .u64 r, .int .u64 d, .int .u8 2] w fun e w' => e = .returned (.bool (decide (d ≤ 2 * r))) ∧ w = w' := by
  by_cases hr : r = 0
  · subst hr
    have e : decide (d ≤ 2 * 0) = false := by simp; omega
    rw [e]
    go_enter Tryz.func114, Tryz.ntmps114
    go_wp2
    go_ret
    exact ⟨rfl, rfl⟩
  · have hr0 : (r == 0) = false := by simpa using hr
    by_cases hg : d - r < r
    · have e : decide (d ≤ 2 * r) = true := by simp; omega
      rw [e]
      go_enter Tryz.func114, Tryz.ntmps114
      go_wp2
      go_ret
      exact ⟨rfl, rfl⟩
    · by_cases he : r = d - r
      · have e : decide (d ≤ 2 * r) = true := by simp; omega
        have he' : (r == d - r) = true := by simpa using he
        clear he
        rw [e]
        go_enter Tryz.func114, Tryz.ntmps114
        go_wp2
        go_ret
        exact ⟨rfl, rfl⟩
      · have e : decide (d ≤ 2 * r) = false := by simp; omega
        have he' : (r == d - r) = false := by simpa using he
        clear he
        rw [e]
        go_enter Tryz.func114, Tryz.ntmps114
        go_wp2
        go_ret
        exact ⟨rfl, rfl⟩
theorem quo_range (n d : Int) (h0 : 0 ≤ n) (hd : 1 ≤ d) : 0 ≤ n / d ∧ n / d ≤ n ∧ 0 ≤ n % d ∧ n % d < d := by
  refine ⟨Int.ediv_nonneg h0 (by omega), Int.ediv_le_self _ h0, Int.emod_nonneg _ (by omega), Int.emod_lt_of_pos _ (by omega)⟩
set_option maxHeartbeats 4000000 in
set_option maxRecDepth 100000 in
theorem quotient_any (n d : Int) (w : World) (h0 : 0 ≤ n) (h1 : n ≤ 1000000000000) (hd : 1 ≤ d) (hd2 : d ≤ 1000000) :
    Calls Tryz.prog 84 #[.int .i64 n, .int .i64 d, .int .u8 2] w fun e w' => e = .returned (.tuple #[.int .i64 (quo n d), .int .i64 0]) ∧ ∃ k, w' = w.drewN k := by
  obtain ⟨q0, q1, r0, r1⟩ := quo_range n d h0 hd
  have cn := fun w => size_any n w h0 (by omega)
  have cd := fun w => size_any d w (by omega) (by omega)
  have ca := fun w => away_any (n % d) d w r0 r1 hd2
  have hd0 : (d == 0) = false := by simp; omega
  have hn0 : decide (n < 0) = false := by simpa using h0
  have hd1 : decide (d < 0) = false := by simp; omega
  unfold quo
  by_cases hup : d ≤ 2 * (n % d)
  · rw [if_pos hup]
    have e : decide (d ≤ 2 * (n % d)) = true := by simpa using hup
    rw [e] at ca
    clear hup e
    go_enter Tryz.func84, Tryz.ntmps84
    go_wp2_with fail
    refine (known_any _).mono ?_
    rintro e w1 ⟨rfl, rfl⟩
    go_wp2_with fail
    clear cn
    go_quiet ((go_at_call 113; exact Calls.quiet_of_same (size_any _ _ (by omega) (by omega))))
    go_wp2_with fail
    refine (cd _).mono ?_
    rintro e w1 ⟨rfl, rfl⟩
    go_wp2_with fail
    refine (ca _).mono ?_
    rintro e w1 ⟨rfl, rfl⟩
    go_wp2_with fail
    go_ret2
    exact ⟨rfl, _, rfl⟩
  · rw [if_neg hup, Int.add_zero]
    have e : decide (d ≤ 2 * (n % d)) = false := by simpa using hup
    rw [e] at ca
    clear hup e
    go_enter Tryz.func84, Tryz.ntmps84
    go_wp2_with fail
    refine (known_any _).mono ?_
    rintro e w1 ⟨rfl, rfl⟩
    go_wp2_with fail
    clear cn
    go_quiet ((go_at_call 113; exact Calls.quiet_of_same (size_any _ _ (by omega) (by omega))))
    go_wp2_with fail
    refine (cd _).mono ?_
    rintro e w1 ⟨rfl, rfl⟩
    go_wp2_with fail
    refine (ca _).mono ?_
    rintro e w1 ⟨rfl, rfl⟩
    go_wp2_with fail
    go_ret2
    exact ⟨rfl, _, rfl⟩
end Go.Proofs.YtgiaohccebolpaaGreatDoor
namespace Go.Proofs.YtgiaohccebolpaaGreatDoor
open Go Go.Lib Go.RowKit
set_option linter.unusedVariables false
theorem cell_lt {w : World} {a : Addr} {v : Value} (hc : w.cell? a = some v) : a.block < w.heap.size := by
  rcases Nat.lt_or_ge a.block w.heap.size with h' | h'
  · exact h'
  · simp [World.cell?, Array.getElem?_eq_none h'] at hc
theorem below_grow {B : Nat} {w w1 w2 : World} (h : Below B w w1) (hz : B ≤ w1.heap.size) (h2 : Below w1.heap.size w1 w2) : Below B w w2 := h.trans (h2.mono hz)
theorem below_trans {a b c : World} (h : Below a.heap.size a b) (g : Below b.heap.size b c) : Below a.heap.size a c :=
  below_grow h h.size g
theorem heap_lt {w : World} {k : Nat} {o : Obj} (h : w.heap[k]? = some o) : k < w.heap.size := (Array.getElem?_eq_some_iff.1 h).1
theorem below_drewN {B : Nat} {a w : World} (h : Below B a w) (n : Nat) : Below B a (w.drewN n) := ⟨h.os, h.tape, h.output, h.size, h.block⟩
theorem cap_iff (f T : Int) (hT : 2002 ≤ T) : (10378368000 / T < f) ↔ 10378368000 < f * T := by
  rw [Int.ediv_lt_iff_lt_mul (by omega)]
set_option maxHeartbeats 4000000 in
set_option maxRecDepth 100000 in
theorem time_any (r : Nat) (hr : r < 256) (hok : okRate r = true) (f : Int) (h0 : 0 ≤ f) (h1 : f ≤ 5184000) (w : World) :
    Calls Tryz.prog 83 #[.int .u8 (r : Int), .int .i64 f] w fun e w' =>
      e = .returned (if f * ticksOf r ≤ 10378368000 then .tuple #[.int .i64 (f * ticksOf r), .int .i64 0] else .tuple #[.int .i64 0, .int .i64 2]) ∧ Below w.heap.size w w' := by
  have cv := fun w => valid_rate r hr w
  have ct := fun w => ticks_any r hr w
  rw [hok] at cv
  obtain ⟨t1, t2⟩ : 2002 ≤ ticksOf r ∧ ticksOf r ≤ 5005 := by
    rcases ticks_cases r with ⟨_, h⟩ | ⟨h1, h2, _⟩
    · rw [h] at hok; cases hok
    · exact ⟨h1, h2⟩
  clear hok
  generalize ticksOf r = T at *
  have hd0 : 0 ≤ 10378368000 / T := Int.ediv_nonneg (by omega) (by omega)
  have hd1 : 10378368000 / T ≤ 10378368000 := Int.ediv_le_self _ (by omega)
  have hm0 : 0 ≤ f * T := Int.mul_nonneg h0 (by omega)
  have hm1 : f * T ≤ 5184000 * 5005 := Int.mul_le_mul h1 t2 (by omega) (by omega)
  have hci := cap_iff f T t1
  by_cases hc : f * T ≤ 10378368000
  · rw [if_pos hc]
    have hz : ¬ (10378368000 / T < f) := by rw [hci]; omega
    clear hci hc
    go_enter Tryz.func83, Tryz.ntmps83
    go_wp2_with fail
    refine (cv _).mono ?_
    rintro e w1 ⟨rfl, hb⟩
    go_wp2_with fail
    refine (ct _).mono ?_
    rintro e w2 ⟨rfl, hb2⟩
    go_wp2_with fail
    refine (ct _).mono ?_
    rintro e w3 ⟨rfl, hb3⟩
    go_wp2_with fail
    go_ret2
    exact ⟨rfl, below_trans (below_trans hb hb2) hb3⟩
  · rw [if_neg hc]
    have hz : 10378368000 / T < f := by rw [hci]; omega
    clear hci hc
    go_enter Tryz.func83, Tryz.ntmps83
    go_wp2_with fail
    refine (cv _).mono ?_
    rintro e w1 ⟨rfl, hb⟩
    go_wp2_with fail
    refine (ct _).mono ?_
    rintro e w2 ⟨rfl, hb2⟩
    go_wp2_with fail
    go_ret2
    exact ⟨rfl, below_trans hb hb2⟩
theorem quo_cap (n T : Int) (h0 : 0 ≤ n) (h1 : n ≤ 10378368000) (t1 : 120 ≤ T) (t2 : T ≤ 5005) : 0 ≤ quo n T ∧ quo n T ≤ 86486401 ∧ quo n T * T ≤ 10378368000 + 5005 := by
  unfold quo
  have e := Int.mul_ediv_add_emod n T
  have r0 := Int.emod_nonneg n (show T ≠ 0 by omega)
  have r1 := Int.emod_lt_of_pos n (show 0 < T by omega)
  have d0 := Int.ediv_nonneg h0 (show 0 ≤ T by omega)
  have d1 : n / T ≤ 86486400 := by
    have h2 : 120 * (n / T) ≤ T * (n / T) := Int.mul_le_mul_of_nonneg_right t1 d0
    omega
  have e2 : (n / T + (if T ≤ 2 * (n % T) then 1 else 0)) * T = T * (n / T) + (if T ≤ 2 * (n % T) then T else 0) := by
    rw [Int.add_mul, Int.mul_comm]
    split <;> simp
  rw [e2]
  split <;> omega
set_option maxHeartbeats 4000000 in
set_option maxRecDepth 100000 in
theorem millis_any (r : Nat) (hr : r < 256) (hok : okRate r = true) (f : Int) (h0 : 0 ≤ f) (h1 : f ≤ 5184000) (w : World) :
    Calls Tryz.prog 51 #[.int .u8 (r : Int), .int .i64 f] w fun e w' =>
      e = .returned (if f * ticksOf r ≤ 10378368000 then .tuple #[.int .i64 (quo (f * ticksOf r) 120), .int .i64 0] else .tuple #[.int .i64 0, .int .i64 2]) ∧ Below w.heap.size w w' := by
  have ct := fun w => time_any r hr hok f h0 h1 w
  obtain ⟨t1, t2⟩ : 2002 ≤ ticksOf r ∧ ticksOf r ≤ 5005 := by
    rcases ticks_cases r with ⟨_, h⟩ | ⟨h1, h2, _⟩
    · rw [h] at hok; cases hok
    · exact ⟨h1, h2⟩
  have hm0 : 0 ≤ f * ticksOf r := Int.mul_nonneg h0 (by omega)
  generalize f * ticksOf r = M at *
  by_cases hc : M ≤ 10378368000
  · rw [if_pos hc] at ct ⊢
    have cq := fun w => quotient_any M 120 w hm0 (by omega) (by omega) (by omega)
    generalize quo M 120 = Q at *
    go_enter Tryz.func51, Tryz.ntmps51
    go_wp2_with fail
    refine (ct _).mono ?_
    rintro e w1 ⟨rfl, hb⟩
    go_wp2_with fail
    refine (cq _).mono ?_
    rintro e w2 ⟨rfl, k, rfl⟩
    go_wp2_with fail
    go_ret2
    exact ⟨rfl, below_drewN hb k⟩
  · rw [if_neg hc] at ct ⊢
    go_enter Tryz.func51, Tryz.ntmps51
    go_wp2_with fail
    refine (ct _).mono ?_
    rintro e w1 ⟨rfl, hb⟩
    go_wp2_with fail
    go_ret2
    exact ⟨rfl, hb⟩
set_option maxHeartbeats 4000000 in
set_option maxRecDepth 100000 in
theorem frame_any (r : Nat) (hr : r < 256) (hok : okRate r = true) (n : Int) (h0 : 0 ≤ n) (h1 : n ≤ 10378368000) (hq : quo n (ticksOf r) * ticksOf r ≤ 10378368000) (w : World) :
    Calls Tryz.prog 62 #[.int .u8 (r : Int), .int .i64 n, .int .u8 2] w fun e w' => e = .returned (.tuple #[.int .i64 (quo n (ticksOf r)), .int .i64 0]) ∧ Below w.heap.size w w' := by
  have cv := fun w => valid_rate r hr w
  have ct := fun w => ticks_any r hr w
  rw [hok] at cv
  obtain ⟨t1, t2⟩ : 2002 ≤ ticksOf r ∧ ticksOf r ≤ 5005 := by
    rcases ticks_cases r with ⟨_, h⟩ | ⟨h1, h2, _⟩
    · rw [h] at hok; cases hok
    · exact ⟨h1, h2⟩
  clear hok
  generalize ticksOf r = T at *
  have cq := fun w => quotient_any n T w h0 (by omega) (by omega) (by omega)
  obtain ⟨q0, q1, q2⟩ := quo_cap n T h0 h1 (by omega) t2
  generalize quo n T = Q at *
  have hm0 : 0 ≤ Q * T := Int.mul_nonneg q0 (by omega)
  have hz : ¬ (10378368000 < Q * T) := by omega
  go_enter Tryz.func62, Tryz.ntmps62
  go_wp2_with fail
  refine (cv _).mono ?_
  rintro e w1 ⟨rfl, hb⟩
  go_wp2_with fail
  refine (ct _).mono ?_
  rintro e w2 ⟨rfl, hb2⟩
  go_wp2_with fail
  refine (cq _).mono ?_
  rintro e w3 ⟨rfl, k, rfl⟩
  go_wp2_with fail
  refine (ct _).mono ?_
  rintro e w4 ⟨rfl, hb4⟩
  go_wp2_with fail
  go_ret2
  exact ⟨rfl, below_trans (below_drewN (below_trans hb hb2) k) hb4⟩
set_option maxHeartbeats 4000000 in
set_option maxRecDepth 100000 in
theorem fromMillis_any (r : Nat) (hr : r < 256) (hok : okRate r = true) (m : Int) (h0 : 0 ≤ m) (h1 : m ≤ 86486400) (hq : quo (m * 120) (ticksOf r) * ticksOf r ≤ 10378368000) (w : World) :
    Calls Tryz.prog 35 #[.int .u8 (r : Int), .int .i64 m] w fun e w' => e = .returned (.tuple #[.int .i64 (quo (m * 120) (ticksOf r)), .int .i64 0]) ∧ Below w.heap.size w w' := by
  have cv := fun w => valid_rate r hr w
  have cf := fun w => frame_any r hr hok (m * 120) (by omega) (by omega) hq w
  rw [hok] at cv
  clear hq hok
  generalize quo (m * 120) (ticksOf r) = Q at *
  have hz : ¬ (86486400 < m) := by omega
  go_enter Tryz.func35, Tryz.ntmps35
  go_wp2_with fail
  refine (cv _).mono ?_
  rintro e w1 ⟨rfl, hb⟩
  go_wp2_with fail
  refine (cf _).mono ?_
  rintro e w2 ⟨rfl, hb2⟩
  go_wp2_with fail
  go_ret2
  exact ⟨rfl, below_trans hb hb2⟩
end Go.Proofs.YtgiaohccebolpaaGreatDoor
namespace Go.Proofs.YtgiaohccebolpaaGreatDoor
open Go Go.RowKit
open Go.Lib hiding intOf
set_option linter.unusedVariables false
/-! ### names -/
def nmB (b : UInt8) : Bool := (65 ≤ b.toNat && b.toNat ≤ 90) || (48 ≤ b.toNat && b.toNat ≤ 57) || b.toNat == 95 || b.toNat == 45
def nameOk (l : List UInt8) : Bool := decide (1 ≤ l.length) && decide (l.length ≤ 16) && decide (65 ≤ (l.getD 0 0).toNat) && decide ((l.getD 0 0).toNat ≤ 90) && l.all nmB
theorem idx_str (s : ByteArray) (i : Nat) (h : i < s.size) (w : World) : (Instr.index 9 (.string s) (.int .i64 (i : Int))).run Tryz.prog w = .ok (.int .u8 ((s.data.toList.getD i 0).toNat : Int)) w := by
  rw [run_index_string w 9 s .i64 i Tryz.underlying9, dif_pos ⟨by omega, by omega⟩]
  have h2 : i < s.data.size := h
  have e : s.data.toList.getD i 0 = s[i]'h := by
    rw [List.getD_eq_getElem?_getD, Array.getElem?_toList, Array.getElem?_eq_getElem h2]; rfl
  rw [e]; rfl
theorem all_drop (p : UInt8 → Bool) (l : List UInt8) (i : Nat) (h : i < l.length) : (l.drop i).all p = (p (l.getD i 0) && (l.drop (i + 1)).all p) := by
  rw [List.drop_eq_getElem_cons h, List.all_cons]
  simp [List.getD, h]
theorem nmB_eq (b : UInt8) : nmB b = (decide (65 ≤ b.toNat ∧ b.toNat ≤ 90 ∨ 48 ≤ b.toNat ∧ b.toNat ≤ 57 ∨ b.toNat = 95 ∨ b.toNat = 45)) := by
  unfold nmB
  rw [Bool.eq_iff_iff]
  simp [Bool.or_assoc]
theorem nm_go {p : Prop} [Decidable p] {A Z : Bool} (h : (decide p && A) = Z) (hp : p) : A = Z := by simpa [hp] using h
theorem nm_stop {p : Prop} [Decidable p] {A Z : Bool} (h : (decide p && A) = Z) (hp : ¬ p) : false = Z := by simpa [hp] using h
set_option maxHeartbeats 4000000 in
set_option maxRecDepth 100000 in
theorem name_any (s : ByteArray) (w : World) (hs : s.size ≤ 9223372036854775807) :
    Calls Tryz.prog 68 #[.string s] w fun e w' => e = .returned (.bool (nameOk s.data.toList)) ∧ w = w' := by
  have hl : s.data.toList.length = s.size := by rw [← size_eq]
  have hidx := idx_str s
  have hd := all_drop nmB s.data.toList
  have hnm := fun i => nmB_eq (s.data.toList.getD i 0)
  have hdef : nameOk s.data.toList = (decide (1 ≤ s.data.toList.length) && decide (s.data.toList.length ≤ 16) && decide (65 ≤ (s.data.toList.getD 0 0).toNat) && decide ((s.data.toList.getD 0 0).toNat ≤ 90) && (s.data.toList.drop 0).all nmB) := by rw [List.drop_zero]; rfl
  rw [hdef, hl]
  clear hdef
  generalize s.data.toList = l at *
  by_cases h1 : s.size < 1
  · have hz : (s.size : Int) < 1 := by omega
    rw [decide_eq_false (show ¬ 1 ≤ s.size by omega)]
    go_enter Tryz.func68, Tryz.ntmps68
    go_wp2
    go_ret
    exact ⟨rfl, rfl⟩
  have hz1 : ¬ (s.size : Int) < 1 := by omega
  by_cases h2 : 16 < s.size
  · have hz : (16 : Int) < s.size := by omega
    rw [decide_eq_false (show ¬ s.size ≤ 16 by omega)]
    go_enter Tryz.func68, Tryz.ntmps68
    go_wp2
    go_ret
    exact ⟨ret_bool (by simp), rfl⟩
  have hz2 : ¬ (16 : Int) < s.size := by omega
  have i0 : ∀ w, (Instr.index 9 (.string s) (.int .i64 0)).run Tryz.prog w = .ok (.int .u8 ((l.getD 0 0).toNat : Int)) w := hidx 0 (by omega)
  rw [decide_eq_true (show 1 ≤ s.size by omega), decide_eq_true (show s.size ≤ 16 by omega)]
  by_cases h3 : (l.getD 0 0).toNat < 65
  · rw [decide_eq_false (show ¬ 65 ≤ (l.getD 0 0).toNat by omega)]
    generalize (l.getD 0 0).toNat = y at *
    have hz : (y : Int) < 65 := by omega
    clear hidx hd hnm
    go_enter Tryz.func68, Tryz.ntmps68
    go_wp2
    go_ret
    exact ⟨ret_bool (by simp), rfl⟩
  by_cases h4 : 90 < (l.getD 0 0).toNat
  · rw [decide_eq_false (show ¬ (l.getD 0 0).toNat ≤ 90 by omega)]
    generalize (l.getD 0 0).toNat = y at *
    have hz : ¬ (y : Int) < 65 := by omega
    have hz' : (90 : Int) < (y : Int) := by omega
    clear hidx hd hnm
    go_enter Tryz.func68, Tryz.ntmps68
    go_wp2
    go_ret
    exact ⟨ret_bool (by simp), rfl⟩
  rw [decide_eq_true (show 65 ≤ (l.getD 0 0).toNat by omega), decide_eq_true (show (l.getD 0 0).toNat ≤ 90 by omega)]
  simp only [Bool.true_and, Bool.and_self]
  obtain ⟨Z, hZ⟩ : ∃ Z, (l.drop 0).all nmB = Z := ⟨_, rfl⟩
  rw [hZ]
  have h5 : ¬ (((l.getD 0 0).toNat : Int) < 65) := by omega
  have h6 : ¬ ((90 : Int) < ((l.getD 0 0).toNat : Int)) := by omega
  generalize (l.getD 0 0).toNat = y0 at i0 h5 h6
  have HZ := Lib.hid hZ
  have HD := Lib.hid hd
  have HN := Lib.hid hnm
  have HI := Lib.hid hidx
  clear h3 h4 hZ hd hnm hidx
  go_enter Tryz.func68, Tryz.ntmps68
  go_wp2_with fail
  clear i0
  go_loop [25] (fun v => ∃ i : Nat, v = .int .i64 i ∧ i ≤ s.size ∧ Hid ((l.drop i).all nmB = Z)) (fun v => s.size - (intOf v).toNat)
  case atStart => exact ⟨0, rfl, Nat.zero_le _, HZ⟩
  case round =>
    clear HZ
    obtain ⟨i, rfl, hi, HZ⟩ := hrel
    by_cases hlt : i < s.size
    · have hz : (i : Int) < (s.size : Int) := by omega
      have hix := HI.out i hlt
      have hq := HZ.out
      rw [HD.out i (by omega), HN.out i] at hq
      clear HZ HD HN HI
      generalize (l.getD i 0).toNat = y at *
      have HQ := Lib.hid hq
      clear hq
      go_wp2_with fail
      all_goals (try simp only [bne_iff_ne, ne_eq, bne_eq_false_iff_eq] at *)
      all_goals first
        | (go_round
           case rel => exact ⟨i + 1, by go_num, by omega, Lib.hid (nm_go HQ.out (by omega))⟩
           case measure => simp [intOf]; omega)
        | (go_ret
           exact ⟨ret_bool (nm_stop HQ.out (by omega)), rfl⟩)
    · obtain rfl : i = s.size := by omega
      have hq := HZ.out
      rw [List.drop_eq_nil_of_le (by omega)] at hq
      have HQ := Lib.hid hq
      clear hq HZ HD HN HI
      have hz : ¬ (s.size : Int) < (s.size : Int) := by omega
      go_wp2_with fail
      go_ret
      exact ⟨ret_bool HQ.out, rfl⟩
end Go.Proofs.YtgiaohccebolpaaGreatDoor
