import Derived.Lib.TrimUEq
import Derived.Lib.SpaceUEq
import Derived.Lib.MapLaws
import Derived.Lib.ValidLaws
import Derived.Lib.FieldsP
import Derived.Lib.RuneCount
import Derived.Laws.RangeAny
import Derived.Test.YtheemefggkcfbaaDoorRows
import Derived.WalkKit
import Derived.WalkSpells
import Derived.WalkLawsBesides
import Derived.BigQuiet
import Derived.Deep.QuietTactic
import Derived.Handy
import Derived.Lib.Hide
import Derived.Lib.Walk
import Derived.Laws.RangeString
import Derived.LoopTactic
import Derived.Deep.DeepCutAuto
import Derived.Deep.RegionHeld3
import Derived.Shelf.Strings.OnBuilder
import Derived.Shelf.Utf8.RuneCount
import Derived.Shelf.Strings.Search3
import Derived.Shelf.Strings.Split
import Derived.Shelf.Strings.FieldsFuncAny
import Derived.Shelf.Strings.Trim
import Derived.Shelf.Unicode.ValidAny
import Derived.Shelf.Strings.SlTrimAscii
import Derived.Shelf.SlicesQ.Equal
import Derived.Test.YtheemefggkcfbaaDoorProg
import Derived.Laws.IdiomStrings
import Derived.Deep.CutBlock
namespace Go.Proofs.YtheemefggkcfbaaDoor
open Go Go.Lib

/-! ### runes of a string -/
def runesGo : Nat → List UInt8 → List Nat
  | 0, _ => []
  | f + 1, l => if l = [] then [] else (decodeL l).1 :: runesGo f (l.drop (decodeL l).2)
def runes (l : List UInt8) : List Nat := runesGo l.length l
theorem runesGo_nil : ∀ n, runesGo n [] = []
  | 0 => rfl
  | _ + 1 => by simp [runesGo]
theorem runesGo_fuel : ∀ (n m : Nat) (l : List UInt8), l.length ≤ n → l.length ≤ m → runesGo n l = runesGo m l
  | 0, m, l, hn, _ => by
    have : l = [] := List.eq_nil_of_length_eq_zero (by omega)
    subst this; rw [runesGo_nil, runesGo_nil]
  | n + 1, 0, l, _, hm => by
    have : l = [] := List.eq_nil_of_length_eq_zero (by omega)
    subst this; rw [runesGo_nil, runesGo_nil]
  | n + 1, m + 1, l, hn, hm => by
    unfold runesGo
    by_cases hne : l = []
    · simp [hne]
    · have hw := decodeL_width l
      have hl : 0 < l.length := List.length_pos_iff.2 hne
      rw [if_neg hne, if_neg hne, runesGo_fuel n m (l.drop (decodeL l).2) (by rw [List.length_drop]; omega) (by rw [List.length_drop]; omega)]
theorem runes_nil : runes [] = [] := rfl
theorem runes_step (l : List UInt8) (hne : l ≠ []) : runes l = (decodeL l).1 :: runes (l.drop (decodeL l).2) := by
  have hl : 0 < l.length := List.length_pos_iff.2 hne
  have hw := decodeL_width l
  obtain ⟨n, hn⟩ : ∃ n, l.length = n + 1 := ⟨l.length - 1, by omega⟩
  unfold runes
  rw [hn]
  show (if l = [] then [] else _) = _
  rw [if_neg hne, runesGo_fuel n (l.drop (decodeL l).2).length _ (by rw [List.length_drop]; omega) (Nat.le_refl _)]
theorem runes_ascii (b : UInt8) (t : List UInt8) (h : b.toNat < 128) : runes (b :: t) = b.toNat :: runes t := by
  rw [runes_step _ (by simp), decodeL_ascii b t h]; simp
theorem runes_length (l : List UInt8) : (runes l).length ≤ l.length := by
  have : ∀ n l, (runesGo n l).length ≤ n := by
    intro n
    induction n with
    | zero => intro l; simp [runesGo]
    | succ n ih => intro l; unfold runesGo; split <;> simp; exact ih _
  exact this _ _
def runesAt (s : ByteArray) (pos : Nat) : List Nat := runes (s.data.toList.drop pos)
theorem runesAt_step (s : ByteArray) (pos : Nat) (h : pos < s.size) : runesAt s pos = (Utf8.decode s pos).1 :: runesAt s (pos + (Utf8.decode s pos).2) := by
  unfold runesAt
  have hne : s.data.toList.drop pos ≠ [] := by
    intro h0
    have := congrArg List.length h0
    rw [List.length_drop, ← size_eq] at this
    simp at this; omega
  rw [runes_step _ hne, decodeL_drop, List.drop_drop]
theorem runesAt_end (s : ByteArray) (pos : Nat) (h : ¬ pos < s.size) : runesAt s pos = [] := by
  unfold runesAt
  rw [List.drop_eq_nil_of_le (by rw [← size_eq]; omega)]; rfl
theorem runesAt_zero (s : ByteArray) : runesAt s 0 = runes s.data.toList := rfl
theorem runesAt_len (s : ByteArray) (pos : Nat) : (runesAt s pos).length ≤ s.size - pos := by
  have := runes_length (s.data.toList.drop pos)
  rw [List.length_drop, ← size_eq] at this
  exact this
theorem runeCountFrom_runes (s : ByteArray) : ∀ (f pos : Nat), s.size ≤ pos + f → Lib.runeCountFrom s f pos = (runesAt s pos).length
  | 0, pos, h => by rw [runesAt_end s pos (by omega)]; rfl
  | f + 1, pos, h => by
    unfold Lib.runeCountFrom
    by_cases hp : pos < s.size
    · have := Lib.decode_width_pos s pos hp
      rw [if_pos hp, runesAt_step s pos hp, runeCountFrom_runes s f _ (by omega), List.length_cons]; omega
    · rw [if_neg hp, runesAt_end s pos hp]; rfl
theorem runeCount_runes (s : ByteArray) : Lib.runeCount s = (runes s.data.toList).length := runeCountFrom_runes s s.size 0 (by omega)

/-! ### the repertoire -/
def allL : List UInt8 := [32, 33, 34, 35, 36, 37, 38, 39, 40, 41, 42, 43, 44, 45, 46, 47, 48, 49, 50, 51, 52, 53, 54, 55, 56, 57, 58, 59, 60, 61, 62, 63, 64, 65, 66, 67, 68, 69, 70, 71, 72, 73, 74, 75, 76, 77, 78, 79, 80, 81, 82, 83, 84, 85, 86, 87, 88, 89, 90, 91, 92, 93, 94, 95, 96, 97, 98, 99, 100, 101, 102, 103, 104, 105, 106, 107, 108, 109, 110, 111, 112, 113, 114, 115, 116, 117, 118, 119, 120, 121, 122, 123, 124, 125, 126, 194, 161, 194, 162, 194, 163, 194, 164, 194, 165, 194, 166, 194, 167, 194, 169, 194, 171, 194, 174, 194, 176, 194, 183, 194, 187, 194, 189, 194, 191, 195, 128, 195, 129, 195, 130, 195, 131, 195, 132, 195, 133, 195, 134, 195, 135, 195, 136, 195, 137, 195, 138, 195, 139, 195, 140, 195, 141, 195, 142, 195, 143, 195, 145, 195, 146, 195, 147, 195, 148, 195, 149, 195, 150, 195, 152, 195, 153, 195, 154, 195, 155, 195, 156, 195, 159, 195, 160, 195, 161, 195, 162, 195, 163, 195, 164, 195, 165, 195, 166, 195, 167, 195, 168, 195, 169, 195, 170, 195, 171, 195, 172, 195, 173, 195, 174, 195, 175, 195, 177, 195, 178, 195, 179, 195, 180, 195, 181, 195, 182, 195, 184, 195, 185, 195, 186, 195, 187, 195, 188, 197, 146, 197, 147, 226, 128, 148, 226, 128, 152, 226, 128, 153, 226, 128, 156, 226, 128, 157, 226, 128, 162, 226, 128, 166, 226, 132, 162, 226, 153, 170]
def findR : List Nat → Int → Int → Int
  | [], _, _ => -1
  | x :: t, r, n => if (x : Int) = r then n else findR t r (n + 1)
theorem findR_ge : ∀ (l : List Nat) (r n : Int), 0 ≤ n → -1 ≤ findR l r n ∧ findR l r n ≤ n + l.length
  | [], r, n, h => by simp [findR]; omega
  | x :: t, r, n, h => by
    unfold findR
    split
    · simp; omega
    · have := findR_ge t r (n + 1) (by omega)
      simp; omega
/-- Index of charset. -/
def idxR (r : Int) : Int := if 32 ≤ r ∧ r ≤ 126 then r - 32 else findR (runes allL) r 0
/-- A character of the repertoire. -/
def inR (r : Nat) : Bool := decide (0 ≤ idxR r)
theorem inR_bad : inR 65533 = false := by decide +kernel
theorem inR_space : inR 32 = true := by decide +kernel
theorem inR_lf : inR 10 = false := by decide +kernel
/-- Valid of charset. -/
def validC (l : List UInt8) : Bool := (runes l).all inR
theorem validC_validD : ∀ (n : Nat) (l : List UInt8), l.length ≤ n → validC l = true → validD l = true
  | n, [], _, _ => rfl
  | 0, _ :: _, h, _ => by simp at h
  | n + 1, b :: t, hl, h => by
    have hne : b :: t ≠ [] := by simp
    have hw := decodeL_width (b :: t)
    unfold validC at h
    rw [runes_step _ hne] at h
    simp only [List.all_cons, Bool.and_eq_true] at h
    rw [validD_step _ hne, if_neg]
    · exact validC_validD n _ (by rw [List.length_drop]; simp at hl ⊢; omega) h.2
    · rintro ⟨h1, _⟩
      rw [h1, inR_bad] at h
      simp at h
theorem validD_false {l : List UInt8} (h : validD l = false) : validC l = false := by
  cases h' : validC l with
  | false => rfl
  | true => rw [validC_validD _ l (Nat.le_refl _) h'] at h; cases h
/-- Len of charset. -/
def lenC (l : List UInt8) : Int := if validC l = true then (runes l).length else -1

/-! ### words -/
def isSep (b : UInt8) : Bool := b == 32 || b == 10
def sepR (r : Nat) : Bool := r == 32 || r == 10
def wordsGo : List UInt8 → List UInt8 → List (List UInt8)
  | cur, [] => if cur = [] then [] else [cur]
  | cur, b :: t => if isSep b then (if cur = [] then [] else [cur]) ++ wordsGo [] t else wordsGo (cur ++ [b]) t
def words (l : List UInt8) : List (List UInt8) := wordsGo [] l
theorem wordsGo_cons (cur : List UInt8) (b : UInt8) (t : List UInt8) : wordsGo cur (b :: t) = if isSep b = true then (if cur = [] then [] else [cur]) ++ wordsGo [] t else wordsGo (cur ++ [b]) t := rfl
theorem wordsGo_pass : ∀ (xs cur t : List UInt8), (∀ b ∈ xs, isSep b = false) → wordsGo cur (xs ++ t) = wordsGo (cur ++ xs) t
  | [], cur, t, _ => by simp
  | b :: xs, cur, t, h => by
    have hb := h b (by simp)
    show wordsGo cur (b :: (xs ++ t)) = _
    rw [wordsGo_cons, hb, if_neg (by simp), wordsGo_pass xs (cur ++ [b]) t (fun c hc => h c (by simp [hc]))]
    simp
theorem isSep_high (b : UInt8) (h : 128 ≤ b.toNat) : isSep b = false := by
  unfold isSep
  cases h1 : b == 32
  · cases h2 : b == 10
    · rfl
    · rw [beq_iff_eq] at h2; subst h2; simp at h
  · rw [beq_iff_eq] at h1; subst h1; simp at h
/-- The bytes of a rune behind a high byte are high. -/
theorem rune_high (l : List UInt8) (h0 : 128 ≤ (l.getD 0 0).toNat) : ∀ b ∈ l.take (decodeL l).2, 128 ≤ b.toNat := by
  intro b hb
  obtain ⟨j, hj, e⟩ := List.getElem_of_mem hb
  have hc := decodeN_conts l.length (l.getD 0 0).toNat (l.getD 1 0).toNat (l.getD 2 0).toNat (l.getD 3 0).toNat
  rw [← decodeL_N] at hc
  obtain ⟨c2, c3, c4, c5⟩ := hc
  have hj' := hj
  rw [List.length_take] at hj'
  have e' : l.getD j 0 = b := by
    rw [← e, List.getElem_take]
    simp [List.getD, List.getElem?_eq_getElem (show j < l.length by omega)]
  subst e'
  match j, hj' with
  | 0, _ => exact h0
  | 1, hj' => have := (c2 (by omega)).1; omega
  | 2, hj' => have := (c3 (by omega)).1; omega
  | 3, hj' => have := (c4 (by omega)).1; omega
  | j + 4, hj' => omega
theorem getD_drop (l : List UInt8) (pos : Nat) (h : pos < l.length) : l.drop pos = l.getD pos 0 :: l.drop (pos + 1) := by
  rw [List.drop_eq_getElem_cons h]
  simp [List.getD, h]
theorem sepR_toNat (b : UInt8) : sepR b.toNat = isSep b := by
  unfold sepR isSep
  congr 1
  · exact Bool.eq_iff_iff.2 (by simp [← UInt8.toNat_inj])
  · exact Bool.eq_iff_iff.2 (by simp [← UInt8.toNat_inj])
theorem openPiece_snoc (l : List UInt8) (a pos k : Nat) (h : a ≤ pos) : pieceU l a pos ++ (l.drop pos).take k = pieceU l a (pos + k) := pieceU_grow l a pos k h
theorem spans_words (s : ByteArray) : ∀ (f pos : Nat) (st : Option Nat) (acc : List (Nat × Nat)), pos ≤ s.size → s.size ≤ pos + f → (∀ a, st = some a → a < pos) →
    (closeSpans s (spansFromP sepR s f pos st acc)).map (fun x => pieceU s.data.toList x.1 x.2) = acc.map (fun x => pieceU s.data.toList x.1 x.2) ++ wordsGo (openPiece s.data.toList st pos) (s.data.toList.drop pos) := by
  intro f
  induction f with
  | zero =>
    intro pos st acc hp hf hst
    obtain rfl : pos = s.size := by omega
    have hd : s.data.toList.drop s.size = [] := List.drop_eq_nil_of_le (by rw [← size_eq]; omega)
    rw [hd]
    cases st with
    | none => simp [spansFromP, closeSpans, openPiece, wordsGo]
    | some a =>
      have := hst a rfl
      have hne := pieceU_ne s.data.toList a s.size this (by rw [← size_eq]; omega)
      simp [spansFromP, closeSpans, openPiece, wordsGo, hne]
  | succ f ih =>
    intro pos st acc hp hf hst
    by_cases hlt : pos < s.size
    · have hl : pos < s.data.toList.length := by rw [← size_eq]; exact hlt
      have hdec := decodeL_drop s pos
      have hwd := Lib.decode_width_pos s pos hlt
      have hcons := getD_drop s.data.toList pos hl
      have hwn : pos + (Utf8.decode s pos).2 ≤ s.size := by
        have hne : s.data.toList.drop pos ≠ [] := by rw [hcons]; simp
        have := decodeL_le _ hne
        rw [hdec, List.length_drop, ← size_eq] at this
        omega
      unfold spansFromP
      rw [if_pos hlt]
      by_cases hb : (s.data.toList.getD pos 0).toNat < 128
      · have hd1 : Utf8.decode s pos = ((s.data.toList.getD pos 0).toNat, 1) := by
          rw [← hdec, hcons, decodeL_ascii _ _ hb]
        rw [hd1]
        simp only [sepR_toNat]
        rw [hcons]
        generalize hB : s.data.toList.getD pos 0 = B at *
        have htk : (s.data.toList.drop pos).take 1 = [B] := by rw [hcons]; rfl
        cases hs : isSep B
        · simp only [Bool.false_eq_true, if_false]
          have hw : ∀ cur, wordsGo cur (B :: s.data.toList.drop (pos + 1)) = wordsGo (cur ++ [B]) (s.data.toList.drop (pos + 1)) := by
            intro cur; conv => lhs; unfold wordsGo
            rw [hs]; simp
          rw [hw]
          cases st with
          | none =>
            simp only []
            rw [ih (pos + 1) (some pos) acc (by omega) (by omega) (fun a h => by cases h; omega)]
            congr 2
            simp only [openPiece, List.nil_append]
            unfold pieceU
            rw [show pos + 1 - pos = 1 by omega, htk]
          | some a =>
            simp only []
            have := hst a rfl
            rw [ih (pos + 1) (some a) acc (by omega) (by omega) (fun b h => by cases h; omega)]
            congr 2
            simp only [openPiece]
            rw [← pieceU_grow _ a pos 1 (by omega), htk]
        · simp only [if_true]
          have hw : ∀ cur, wordsGo cur (B :: s.data.toList.drop (pos + 1)) = (if cur = [] then [] else [cur]) ++ wordsGo [] (s.data.toList.drop (pos + 1)) := by
            intro cur; conv => lhs; unfold wordsGo
            rw [hs]; simp
          rw [hw]
          cases st with
          | none =>
            simp only []
            rw [ih (pos + 1) none acc (by omega) (by omega) (fun a h => by cases h)]
            simp [openPiece]
          | some a =>
            simp only []
            have := hst a rfl
            have hne := pieceU_ne s.data.toList a pos this (by omega)
            rw [ih (pos + 1) none _ (by omega) (by omega) (fun a h => by cases h)]
            simp [openPiece, hne]
      · have hb' : 128 ≤ (s.data.toList.getD pos 0).toNat := by omega
        have hr : sepR (Utf8.decode s pos).1 = false := by
          have hg : (s[pos]'hlt) = s.data.toList.getD pos 0 := by
            have h2 : pos < s.data.size := hlt
            show s.data[pos]'h2 = _
            rw [List.getD_eq_getElem?_getD, Array.getElem?_toList, Array.getElem?_eq_getElem h2]; rfl
          have := (decode_high s pos hlt (by rw [hg]; exact hb')).1
          unfold sepR
          simp; omega
        have hhigh := rune_high (s.data.toList.drop pos) (by rw [hcons]; exact hb')
        rw [hdec] at hhigh
        have hsplit : s.data.toList.drop pos = (s.data.toList.drop pos).take (Utf8.decode s pos).2 ++ s.data.toList.drop (pos + (Utf8.decode s pos).2) := by
          rw [← List.drop_drop, List.take_append_drop]
        have hpass : ∀ cur, wordsGo cur (s.data.toList.drop pos) = wordsGo (cur ++ (s.data.toList.drop pos).take (Utf8.decode s pos).2) (s.data.toList.drop (pos + (Utf8.decode s pos).2)) := by
          intro cur
          conv => lhs; rw [hsplit]
          exact wordsGo_pass _ _ _ (fun b hb => isSep_high b (hhigh b hb))
        rw [hr, hpass]
        simp only [Bool.false_eq_true, if_false]
        generalize (Utf8.decode s pos).2 = K at *
        cases st with
        | none =>
          simp only []
          rw [ih (pos + K) (some pos) acc (by omega) (by omega) (fun a h => by cases h; omega)]
          congr 2
          simp only [openPiece, List.nil_append]
          unfold pieceU
          rw [show pos + K - pos = K by omega]
        | some a =>
          simp only []
          have := hst a rfl
          rw [ih (pos + K) (some a) acc (by omega) (by omega) (fun b h => by cases h; omega)]
          congr 2
          simp only [openPiece]
          rw [← pieceU_grow _ a pos K (by omega)]
    · obtain rfl : pos = s.size := by omega
      have hd : s.data.toList.drop s.size = [] := List.drop_eq_nil_of_le (by rw [← size_eq]; omega)
      rw [hd, spansFromP_end _ _ _ _ _ _ hlt]
      cases st with
      | none => simp [closeSpans, openPiece, wordsGo]
      | some a =>
        have := hst a rfl
        have hne := pieceU_ne s.data.toList a s.size this (by rw [← size_eq]; omega)
        simp [closeSpans, openPiece, wordsGo, hne]
def strV (l : List UInt8) : Value := .string ⟨l.toArray⟩
theorem piece_extract (s : ByteArray) (a b : Nat) : s.extract a b = ⟨(pieceU s.data.toList a b).toArray⟩ := by
  apply ByteArray.ext
  apply Array.toList_inj.1
  rw [extract_data]
  rfl
theorem goFieldsP_words (s : ByteArray) : (goFieldsP sepR s).map Value.string = (words s.data.toList).map strV := by
  have h := spans_words s s.size 0 none [] (Nat.zero_le _) (by omega) (fun a h => by cases h)
  simp only [List.map_nil, List.nil_append, openPiece, List.drop_zero] at h
  unfold words
  rw [← h]
  unfold goFieldsP spansOfP
  rw [List.map_map, List.map_map]
  apply List.map_congr_left
  intro x _
  show Value.string (s.extract x.1 x.2) = Value.string _
  rw [piece_extract]
theorem goFieldsP_len (s : ByteArray) : (goFieldsP sepR s).length = (words s.data.toList).length := by
  have := congrArg List.length (goFieldsP_words s)
  simpa using this
end Go.Proofs.YtheemefggkcfbaaDoor
namespace Go.Proofs.YtheemefggkcfbaaDoor
open Go Go.Lib Go.RowKit
theorem ret_bool {a b : Bool} (h : a = b) : Ending.returned (.bool a) = .returned (.bool b) := by rw [h]
theorem ret_int {k : IntKind} {a b : Int} (h : a = b) : Ending.returned (.int k a) = .returned (.int k b) := by rw [h]
theorem below1 {B : Nat} {w : World} (o : Obj) (h : B ≤ w.heap.size) : Below B w (w.alloc o) := (Below.refl _ _).alloc h _
theorem below_iter (w : World) (s : ByteArray) (pos : Nat) : Below w.heap.size w (w.iter s pos) := below1 _ (Nat.le_refl _)

set_option maxHeartbeats 4000000 in
set_option maxRecDepth 100000 in
theorem place_any (s : ByteArray) (r : Int) (w : World) (hs : s.size < 9223372036854775807) :
    Calls Tryd.prog 112 #[.string s, .int .i32 r] w fun e w' => e = .returned (.int .i64 (findR (runes s.data.toList) r 0)) ∧ Below w.heap.size w w' := by
  obtain ⟨Z, hZ⟩ : ∃ Z, findR (runes s.data.toList) r 0 = Z := ⟨_, rfl⟩
  rw [hZ]
  go_enter Tryd.func112, Tryd.ntmps112
  go_wp2
  go_loopw [5] (fun n w' => ∃ (pos acc : Nat), w' = w.iter s pos ∧ n = .int .i64 acc ∧ findR (runesAt s pos) r acc = Z ∧ acc ≤ pos ∧ pos ≤ s.size + 4) (fun _ w' => s.size - w'.iterPos w.heap.size)
  case atStart => exact ⟨0, 0, rfl, rfl, hZ, Nat.le_refl _, by omega⟩
  case round =>
    obtain ⟨pos, acc, rfl, rfl, hc, ha, hpl⟩ := hrel
    by_cases hp : pos < s.size
    · have hnx : ∀ ty, (Instr.next (.pointer (some ⟨w.heap.size, 0, none⟩)) true ty).run Tryd.prog (w.iter s pos) = _ := fun ty => run_next_any w s pos ty hp
      have hwd := Lib.decode_width_pos s pos hp
      have hwn : (Utf8.decode s pos).2 ≤ 4 := by
        rw [decode_N]; exact (decodeN_conts _ _ _ _ _).2.2.2
      rw [runesAt_step s pos hp] at hc
      unfold findR at hc
      by_cases hx : ((Utf8.decode s pos).1 : Int) = r
      · rw [if_pos hx] at hc
        go_wp2
        go_ret
        exact ⟨ret_int hc, below_iter _ _ _⟩
      · rw [if_neg hx] at hc
        go_wp2
        go_roundw
        case rel => exact ⟨pos + (Utf8.decode s pos).2, acc + 1, rfl, by go_num, by rw [← hc]; congr 1, by omega, by omega⟩
        case measure =>
          simp
          omega
    · have hnx : ∀ ty, (Instr.next (.pointer (some ⟨w.heap.size, 0, none⟩)) true ty).run Tryd.prog (w.iter s pos) = _ := fun ty => run_next_end w s pos ty hp
      rw [runesAt_end s pos hp] at hc
      go_wp2
      go_ret
      exact ⟨ret_int hc, below_iter _ _ _⟩
def allS : ByteArray := ⟨#[32, 33, 34, 35, 36, 37, 38, 39, 40, 41, 42, 43, 44, 45, 46, 47, 48, 49, 50, 51, 52, 53, 54, 55, 56, 57, 58, 59, 60, 61, 62, 63, 64, 65, 66, 67, 68, 69, 70, 71, 72, 73, 74, 75, 76, 77, 78, 79, 80, 81, 82, 83, 84, 85, 86, 87, 88, 89, 90, 91, 92, 93, 94, 95, 96, 97, 98, 99, 100, 101, 102, 103, 104, 105, 106, 107, 108, 109, 110, 111, 112, 113, 114, 115, 116, 117, 118, 119, 120, 121, 122, 123, 124, 125, 126, 194, 161, 194, 162, 194, 163, 194, 164, 194, 165, 194, 166, 194, 167, 194, 169, 194, 171, 194, 174, 194, 176, 194, 183, 194, 187, 194, 189, 194, 191, 195, 128, 195, 129, 195, 130, 195, 131, 195, 132, 195, 133, 195, 134, 195, 135, 195, 136, 195, 137, 195, 138, 195, 139, 195, 140, 195, 141, 195, 142, 195, 143, 195, 145, 195, 146, 195, 147, 195, 148, 195, 149, 195, 150, 195, 152, 195, 153, 195, 154, 195, 155, 195, 156, 195, 159, 195, 160, 195, 161, 195, 162, 195, 163, 195, 164, 195, 165, 195, 166, 195, 167, 195, 168, 195, 169, 195, 170, 195, 171, 195, 172, 195, 173, 195, 174, 195, 175, 195, 177, 195, 178, 195, 179, 195, 180, 195, 181, 195, 182, 195, 184, 195, 185, 195, 186, 195, 187, 195, 188, 197, 146, 197, 147, 226, 128, 148, 226, 128, 152, 226, 128, 153, 226, 128, 156, 226, 128, 157, 226, 128, 162, 226, 128, 166, 226, 132, 162, 226, 153, 170]⟩
theorem allS_list : allS.data.toList = allL := rfl
set_option maxRecDepth 100000 in
theorem allS_size : allS.size = 266 := rfl

set_option maxHeartbeats 4000000 in
set_option maxRecDepth 100000 in
theorem index_any (r : Int) (w : World) (h0 : 0 ≤ r) (h1 : r ≤ 1114111) :
    Calls Tryd.prog 90 #[.int .i32 r] w fun e w' => e = .returned (.int .i64 (idxR r)) ∧ Below w.heap.size w w' := by
  by_cases ha : 32 ≤ r
  · by_cases hb : r ≤ 126
    · have e : idxR r = r - 32 := by unfold idxR; rw [if_pos ⟨ha, hb⟩]
      rw [e]
      clear e
      go_enter Tryd.func90, Tryd.ntmps90
      go_wp2
      go_ret
      exact ⟨rfl, Below.refl _ _⟩
    · have e : idxR r = findR (runes allL) r 0 := by unfold idxR; rw [if_neg (by omega)]
      have c := place_any allS r w (by rw [allS_size]; decide)
      rw [allS_list, ← e] at c
      clear e
      go_enter Tryd.func90, Tryd.ntmps90
      go_wp2_with (refine (show Calls Tryd.prog 112 #[.string allS, .int .i32 r] w _ from c).mono ?_; rintro e w1 ⟨rfl, hb1⟩)
      go_ret
      exact ⟨rfl, hb1⟩
  · have e : idxR r = findR (runes allL) r 0 := by unfold idxR; rw [if_neg (by omega)]
    have c := place_any allS r w (by rw [allS_size]; decide)
    rw [allS_list, ← e] at c
    clear e
    go_enter Tryd.func90, Tryd.ntmps90
    go_wp2_with (refine (show Calls Tryd.prog 112 #[.string allS, .int .i32 r] w _ from c).mono ?_; rintro e w1 ⟨rfl, hb1⟩)
    go_ret
    exact ⟨rfl, hb1⟩

set_option maxRecDepth 100000 in
theorem repertoire_any (w : World) : Calls Tryd.prog 113 #[] w fun e w' => e = .returned (.string allS) ∧ w = w' := by
  go_enter Tryd.func113, Tryd.ntmps113
  go_wp2
  go_ret
  exact ⟨rfl, rfl⟩

set_option maxHeartbeats 4000000 in
set_option maxRecDepth 100000 in
theorem rindex_any (r : Int) (w : World) (h0 : 0 ≤ r) (h1 : r ≤ 1114111) :
    Calls Tryd.prog 91 #[.int .i32 r] w fun e w' => e = .returned (.int .i64 (idxR r)) ∧ Below w.heap.size w w' := by
  by_cases ha : 32 ≤ r
  · by_cases hb : r ≤ 126
    · have e : idxR r = r - 32 := by unfold idxR; rw [if_pos ⟨ha, hb⟩]
      rw [e]
      clear e
      go_enter Tryd.func91, Tryd.ntmps91
      go_wp2
      go_ret
      exact ⟨rfl, Below.refl _ _⟩
    · have hZ : findR (runesAt allS 0) r 0 = idxR r := by unfold idxR; rw [if_neg (by omega)]; rfl
      have hsz : allS.size < 9223372036854775807 := by rw [allS_size]; decide
      have c := repertoire_any w
      generalize allS = S at hZ hsz c
      generalize idxR r = Z at hZ ⊢
      go_enter Tryd.func91, Tryd.ntmps91
      go_wp2_with (refine c.mono ?_; rintro e w1 ⟨rfl, hw1⟩; subst hw1)
      go_loopw [3] (fun n w' => ∃ (pos acc : Nat), w' = w.iter S pos ∧ n = .int .i64 acc ∧ findR (runesAt S pos) r acc = Z ∧ acc ≤ pos ∧ pos ≤ S.size + 4) (fun _ w' => S.size - w'.iterPos w.heap.size)
      case atStart => exact ⟨0, 0, rfl, rfl, hZ, Nat.le_refl _, by omega⟩
      case round =>
        obtain ⟨pos, acc, rfl, rfl, hc, ha, hpl⟩ := hrel
        by_cases hp : pos < S.size
        · have hnx : ∀ ty, (Instr.next (.pointer (some ⟨w.heap.size, 0, none⟩)) true ty).run Tryd.prog (w.iter S pos) = _ := fun ty => run_next_any w S pos ty hp
          have hwd := Lib.decode_width_pos S pos hp
          have hwn : (Utf8.decode S pos).2 ≤ 4 := by
            rw [decode_N]; exact (decodeN_conts _ _ _ _ _).2.2.2
          rw [runesAt_step S pos hp] at hc
          unfold findR at hc
          by_cases hx : ((Utf8.decode S pos).1 : Int) = r
          · rw [if_pos hx] at hc
            go_wp2
            go_ret
            exact ⟨ret_int hc, below_iter _ _ _⟩
          · rw [if_neg hx] at hc
            go_wp2
            go_roundw
            case rel => exact ⟨pos + (Utf8.decode S pos).2, acc + 1, rfl, by go_num, by rw [← hc]; congr 1, by omega, by omega⟩
            case measure =>
              simp
              omega
        · have hnx : ∀ ty, (Instr.next (.pointer (some ⟨w.heap.size, 0, none⟩)) true ty).run Tryd.prog (w.iter S pos) = _ := fun ty => run_next_end w S pos ty hp
          rw [runesAt_end S pos hp] at hc
          go_wp2
          go_ret
          exact ⟨ret_int hc, below_iter _ _ _⟩
  · have hZ : findR (runesAt allS 0) r 0 = idxR r := by unfold idxR; rw [if_neg (by omega)]; rfl
    have hsz : allS.size < 9223372036854775807 := by rw [allS_size]; decide
    have c := repertoire_any w
    generalize allS = S at hZ hsz c
    generalize idxR r = Z at hZ ⊢
    go_enter Tryd.func91, Tryd.ntmps91
    go_wp2_with (refine c.mono ?_; rintro e w1 ⟨rfl, hw1⟩; subst hw1)
    go_loopw [3] (fun n w' => ∃ (pos acc : Nat), w' = w.iter S pos ∧ n = .int .i64 acc ∧ findR (runesAt S pos) r acc = Z ∧ acc ≤ pos ∧ pos ≤ S.size + 4) (fun _ w' => S.size - w'.iterPos w.heap.size)
    case atStart => exact ⟨0, 0, rfl, rfl, hZ, Nat.le_refl _, by omega⟩
    case round =>
      obtain ⟨pos, acc, rfl, rfl, hc, ha, hpl⟩ := hrel
      by_cases hp : pos < S.size
      · have hnx : ∀ ty, (Instr.next (.pointer (some ⟨w.heap.size, 0, none⟩)) true ty).run Tryd.prog (w.iter S pos) = _ := fun ty => run_next_any w S pos ty hp
        have hwd := Lib.decode_width_pos S pos hp
        have hwn : (Utf8.decode S pos).2 ≤ 4 := by
          rw [decode_N]; exact (decodeN_conts _ _ _ _ _).2.2.2
        rw [runesAt_step S pos hp] at hc
        unfold findR at hc
        by_cases hx : ((Utf8.decode S pos).1 : Int) = r
        · rw [if_pos hx] at hc
          go_wp2
          go_ret
          exact ⟨ret_int hc, below_iter _ _ _⟩
        · rw [if_neg hx] at hc
          go_wp2
          go_roundw
          case rel => exact ⟨pos + (Utf8.decode S pos).2, acc + 1, rfl, by go_num, by rw [← hc]; congr 1, by omega, by omega⟩
          case measure =>
            simp
            omega
      · have hnx : ∀ ty, (Instr.next (.pointer (some ⟨w.heap.size, 0, none⟩)) true ty).run Tryd.prog (w.iter S pos) = _ := fun ty => run_next_end w S pos ty hp
        rw [runesAt_end S pos hp] at hc
        go_wp2
        go_ret
        exact ⟨ret_int hc, below_iter _ _ _⟩
end Go.Proofs.YtheemefggkcfbaaDoor
/- The contracts of library functions, laid at this program by the kit's tools. -/
namespace Go.Proofs
open Go.Shelf
def Tryd.lays156_ren : Go.Shelf.Ren := ⟨fun | 156 => 50 | 165 => 85 | 166 => 86 | 169 => 87 | 240 => 107 | 241 => 108 | 276 => 128 | 277 => 129 | n => n, fun | 31 => 42 | 9 => 9 | 3 => 3 | 4 => 4 | 0 => 0 | 20 => 20 | 72 => 100 | 76 => 104 | 70 => 97 | 37 => 98 | 75 => 103 | 127 => 132 | 164 => 152 | 5 => 5 | 80 => 106 | n => n, fun | n => n⟩
theorem Tryd.lays156 : Go.Proofs.Lays.n156 Tryd.prog Tryd.lays156_ren := {
  mixed := by kernel_rfl
  f156 := Tryd.func50.trans (congrArg some (by kernel_rfl))
  f165 := Tryd.func85.trans (congrArg some (by kernel_rfl))
  f166 := Tryd.func86.trans (congrArg some (by kernel_rfl))
  f169 := Tryd.func87.trans (congrArg some (by kernel_rfl))
  f240 := Tryd.func107.trans (congrArg some (by kernel_rfl))
  f241 := Tryd.func108.trans (congrArg some (by kernel_rfl))
  f276 := Tryd.func128.trans (congrArg some (by kernel_rfl))
  f277 := Tryd.func129.trans (congrArg some (by kernel_rfl))
  t0 := Tryd.underlying0
  a0 := Tryd.isAgg0
  z0 := Tryd.sizeOf0
  v0 := Tryd.zeroValue0
  t3 := Tryd.underlying3
  a3 := Tryd.isAgg3
  z3 := Tryd.sizeOf3
  v3 := Tryd.zeroValue3
  t4 := Tryd.underlying4
  a4 := Tryd.isAgg4
  z4 := Tryd.sizeOf4
  v4 := Tryd.zeroValue4
  t9 := Tryd.underlying9
  a9 := Tryd.isAgg9
  z9 := Tryd.sizeOf9
  v9 := Tryd.zeroValue9
  t20 := Tryd.underlying20
  a20 := Tryd.isAgg20
  z20 := Tryd.sizeOf20
  v20 := Tryd.zeroValue20
  t31 := Tryd.underlying42
  a31 := Tryd.isAgg42
  z31 := Tryd.sizeOf42
  v31 := Tryd.zeroValue42
  t37 := Tryd.underlying98
  a37 := Tryd.isAgg98
  z37 := Tryd.sizeOf98
  v37 := Tryd.zeroValue98
  t70 := Tryd.underlying97
  a70 := Tryd.isAgg97
  z70 := Tryd.sizeOf97
  v70 := Tryd.zeroValue97
  t72 := Tryd.underlying100
  a72 := Tryd.isAgg100
  z72 := Tryd.sizeOf100
  v72 := Tryd.zeroValue100
  t75 := Tryd.underlying103
  a75 := Tryd.isAgg103
  z75 := Tryd.sizeOf103
  v75 := Tryd.zeroValue103
  t76 := Tryd.underlying104
  a76 := Tryd.isAgg104
  z76 := Tryd.sizeOf104
  v76 := Tryd.zeroValue104
  t127 := Tryd.underlying132
  a127 := Tryd.isAgg132
  z127 := Tryd.sizeOf132
  v127 := Tryd.zeroValue132
  t164 := Tryd.underlying152
  a164 := Tryd.isAgg152
  z164 := Tryd.sizeOf152
  v164 := Tryd.zeroValue152 }
theorem Tryd.Builder_Extra_156 : Builder.Extra Tryd.prog Tryd.lays156_ren := {
  sizeBuilder := by kernel_rfl
  liesBuilder := by kernel_rfl
  t5 := Tryd.underlying5
  a5 := Tryd.isAgg5
  z5 := Tryd.sizeOf5
  v5 := Tryd.zeroValue5
  infoByte := by kernel_rfl
  cellsByte := by kernel_rfl
  sizeByte := by kernel_rfl
  neB5 := by decide }
open Go.RowKit in
/-- No element: the empty string; the world is as it was. (Whatever the slice's address and capacity: a nil slice too.) (LAID: no walk: one application.) -/
theorem Tryd.strings_Join_none (a : Option Addr) (c : Nat) (sep : ByteArray) (w : World) :
    Calls Tryd.prog 50 #[.slice a 0 c, .string sep] w fun e w' => e = .returned (.string ⟨#[]⟩) ∧ w' = w := Any.strings_Join_none Tryd.lays156 Tryd.Builder_Extra_156 a c sep w
open Go.RowKit in
/-- strings.Join: "Join concatenates the elements of its first argument to create a single string. The separator string sep is placed between elements in the resulting string.": HOWEVER MANY ELEMENTS. Below the heap's end the world is as it was. (LAID: no walk: one application.) -/
theorem Tryd.strings_Join (bk o c : Nat) (xs : List ByteArray) (sep : ByteArray) (w : World) (hcells : ∀ (j : Nat) x, xs[j]? = some x → w.cell? ⟨bk, o + j, none⟩ = some (.string x)) (hbk : bk < w.heap.size) (hN : xs.length ≤ 140737488355328) (hcap : xs.length ≤ c) (hlen : (Lib.join (xs.map (·.data.toList)) sep.data.toList).length ≤ 140737488355328) :
    Calls Tryd.prog 50 #[.slice (some ⟨bk, o, none⟩) xs.length c, .string sep] w fun e w' => e = .returned (.string ⟨(Lib.join (xs.map (·.data.toList)) sep.data.toList).toArray⟩) ∧ Below w.heap.size w w' := Any.strings_Join Tryd.lays156 Tryd.Builder_Extra_156 bk o c xs sep w hcells hbk hN hcap hlen
def Tryd.lays162_ren : Go.Shelf.Ren := ⟨fun | 162 => 61 | 232 => 92 | 227 => 93 | 234 => 94 | 236 => 95 | 228 => 114 | 271 => 115 | 151 => 116 | 120 => 134 | 197 => 111 | 152 => 118 | 260 => 133 | 137 => 135 | 119 => 136 | 224 => 125 | 225 => 124 | 217 => 123 | 266 => 141 | n => n, fun | 9 => 9 | 4 => 4 | 3 => 3 | 5 => 5 | 117 => 116 | 116 => 115 | 0 => 0 | 124 => 119 | 21 => 21 | 105 => 136 | 46 => 128 | 119 => 107 | 139 => 127 | 138 => 126 | n => n, fun | 3 => 1 | 4 => 2 | n => n⟩
theorem Tryd.lays162 : Go.Proofs.Lays.n162 Tryd.prog Tryd.lays162_ren := {
  mixed := by kernel_rfl
  f119 := Tryd.func136.trans (congrArg some (by kernel_rfl))
  f120 := Tryd.func134.trans (congrArg some (by kernel_rfl))
  f137 := Tryd.func135.trans (congrArg some (by kernel_rfl))
  f151 := Tryd.func116.trans (congrArg some (by kernel_rfl))
  f152 := Tryd.func118.trans (congrArg some (by kernel_rfl))
  f162 := Tryd.func61.trans (congrArg some (by kernel_rfl))
  f197 := Tryd.func111.trans (congrArg some (by kernel_rfl))
  f217 := Tryd.func123.trans (congrArg some (by kernel_rfl))
  f224 := Tryd.func125.trans (congrArg some (by kernel_rfl))
  f225 := Tryd.func124.trans (congrArg some (by kernel_rfl))
  f227 := Tryd.func93.trans (congrArg some (by kernel_rfl))
  f228 := Tryd.func114.trans (congrArg some (by kernel_rfl))
  f232 := Tryd.func92.trans (congrArg some (by kernel_rfl))
  f234 := Tryd.func94.trans (congrArg some (by kernel_rfl))
  f236 := Tryd.func95.trans (congrArg some (by kernel_rfl))
  f260 := Tryd.func133.trans (congrArg some (by kernel_rfl))
  f266 := Tryd.func141.trans (congrArg some (by kernel_rfl))
  f271 := Tryd.func115.trans (congrArg some (by kernel_rfl))
  t0 := Tryd.underlying0
  a0 := Tryd.isAgg0
  z0 := Tryd.sizeOf0
  v0 := Tryd.zeroValue0
  t3 := Tryd.underlying3
  a3 := Tryd.isAgg3
  z3 := Tryd.sizeOf3
  v3 := Tryd.zeroValue3
  t4 := Tryd.underlying4
  a4 := Tryd.isAgg4
  z4 := Tryd.sizeOf4
  v4 := Tryd.zeroValue4
  t5 := Tryd.underlying5
  a5 := Tryd.isAgg5
  z5 := Tryd.sizeOf5
  v5 := Tryd.zeroValue5
  t9 := Tryd.underlying9
  a9 := Tryd.isAgg9
  z9 := Tryd.sizeOf9
  v9 := Tryd.zeroValue9
  t21 := Tryd.underlying21
  a21 := Tryd.isAgg21
  z21 := Tryd.sizeOf21
  v21 := Tryd.zeroValue21
  t46 := Tryd.underlying128
  a46 := Tryd.isAgg128
  z46 := Tryd.sizeOf128
  v46 := Tryd.zeroValue128
  t105 := Tryd.underlying136
  a105 := Tryd.isAgg136
  z105 := Tryd.sizeOf136
  v105 := Tryd.zeroValue136
  t116 := Tryd.underlying115
  a116 := Tryd.isAgg115
  z116 := Tryd.sizeOf115
  t117 := Tryd.underlying116
  a117 := Tryd.isAgg116
  z117 := Tryd.sizeOf116
  v117 := Tryd.zeroValue116
  t119 := Tryd.underlying107
  a119 := Tryd.isAgg107
  z119 := Tryd.sizeOf107
  t124 := Tryd.underlying119
  a124 := Tryd.isAgg119
  z124 := Tryd.sizeOf119
  v124 := Tryd.zeroValue119
  t138 := Tryd.underlying126
  a138 := Tryd.isAgg126
  z138 := Tryd.sizeOf126
  v138 := Tryd.zeroValue126
  t139 := Tryd.underlying127
  a139 := Tryd.isAgg127
  z139 := Tryd.sizeOf127
  v139 := Tryd.zeroValue127
  g3 := by kernel_rfl
  g4 := by kernel_rfl }
open Go.RowKit in
/-- strings.TrimRight: "TrimRight returns a slice of the string s, with all trailing Unicode code points contained in cutset removed.": AT A cutset OF ONE ASCII BYTE. The world is as it was. (LAID: no walk: one application.) -/
theorem Tryd.strings_TrimRight_one (s : ByteArray) (c : UInt8) (hc : c.toNat < 128) (w : World) (hs : s.size ≤ 9223372036854775807) :
    Calls Tryd.prog 61 #[.string s, .string ⟨#[c]⟩] w fun e w' => e = .returned (.string ⟨(Lib.trimRightB s.data.toList c).toArray⟩) ∧ w' = w := Any.strings_TrimRight_one Tryd.lays162 s c hc w hs
def Tryd.lays195_ren : Go.Shelf.Ren := ⟨fun | 195 => 66 | n => n, fun | 9 => 9 | 3 => 3 | 0 => 0 | 4 => 4 | n => n, fun | n => n⟩
theorem Tryd.lays195 : Go.Proofs.Lays.n195 Tryd.prog Tryd.lays195_ren := {
  mixed := by kernel_rfl
  f195 := Tryd.func66.trans (congrArg some (by kernel_rfl))
  t0 := Tryd.underlying0
  a0 := Tryd.isAgg0
  z0 := Tryd.sizeOf0
  v0 := Tryd.zeroValue0
  t3 := Tryd.underlying3
  a3 := Tryd.isAgg3
  z3 := Tryd.sizeOf3
  v3 := Tryd.zeroValue3
  t4 := Tryd.underlying4
  a4 := Tryd.isAgg4
  z4 := Tryd.sizeOf4
  v4 := Tryd.zeroValue4
  t9 := Tryd.underlying9
  a9 := Tryd.isAgg9
  z9 := Tryd.sizeOf9
  v9 := Tryd.zeroValue9 }
open Go.RowKit in
/-- unicode/utf8.RuneCountInString: "RuneCountInString is like RuneCount but its input is a string." ("RuneCount returns the number of runes in p. Erroneous and short encodings are treated as single runes of width 1 byte."): EVERY STRING, valid UTF-8 or not: 'Lib.runeCount s' (plain Lean over the model's own 'Utf8.decode'; 'Lib.runeCount_le': at most len(s); 'Lib.runeCount_ascii': on ASCII: len(s)). THE ONE CONDITION: len(s) below 2^63 - 1 (the counter does not wrap): the form's reach pays it. THE WORLD BEHIND THE CALL: ONE BLOCK MORE: the model's iterator over s, at its end: all else as it was. (LAID: no walk: one application.) -/
theorem Tryd.utf8_RuneCountInString (s : ByteArray) (w : World) (hs : s.size < 9223372036854775807) :
    Calls Tryd.prog 66 #[.string s] w fun e w' => e = .returned (.int .i64 (Lib.runeCount s)) ∧ ∃ pos, w' = w.iter s pos := Any.utf8_RuneCountInString Tryd.lays195 s w hs
def Tryd.lays144_ren : Go.Shelf.Ren := ⟨fun | 144 => 40 | 143 => 76 | 219 => 105 | 217 => 123 | 225 => 124 | 224 => 125 | 267 => 126 | 266 => 141 | 314 => 142 | n => n, fun | 9 => 9 | 4 => 4 | 3 => 3 | 5 => 5 | 46 => 128 | 146 => 167 | 51 => 133 | n => n, fun | 1 => 4 | n => n⟩
theorem Tryd.lays144 : Go.Proofs.Lays.n144 Tryd.prog Tryd.lays144_ren := {
  mixed := by kernel_rfl
  f143 := Tryd.func76.trans (congrArg some (by kernel_rfl))
  f144 := Tryd.func40.trans (congrArg some (by kernel_rfl))
  f217 := Tryd.func123.trans (congrArg some (by kernel_rfl))
  f219 := Tryd.func105.trans (congrArg some (by kernel_rfl))
  f224 := Tryd.func125.trans (congrArg some (by kernel_rfl))
  f225 := Tryd.func124.trans (congrArg some (by kernel_rfl))
  f266 := Tryd.func141.trans (congrArg some (by kernel_rfl))
  f267 := Tryd.func126.trans (congrArg some (by kernel_rfl))
  f314 := Tryd.func142.trans (congrArg some (by kernel_rfl))
  t3 := Tryd.underlying3
  a3 := Tryd.isAgg3
  z3 := Tryd.sizeOf3
  v3 := Tryd.zeroValue3
  t4 := Tryd.underlying4
  a4 := Tryd.isAgg4
  z4 := Tryd.sizeOf4
  v4 := Tryd.zeroValue4
  t5 := Tryd.underlying5
  a5 := Tryd.isAgg5
  z5 := Tryd.sizeOf5
  v5 := Tryd.zeroValue5
  t9 := Tryd.underlying9
  a9 := Tryd.isAgg9
  z9 := Tryd.sizeOf9
  v9 := Tryd.zeroValue9
  t46 := Tryd.underlying128
  a46 := Tryd.isAgg128
  z46 := Tryd.sizeOf128
  v46 := Tryd.zeroValue128
  t51 := Tryd.underlying133
  a51 := Tryd.isAgg133
  z51 := Tryd.sizeOf133
  v51 := Tryd.zeroValue133
  t146 := Tryd.underlying167
  a146 := Tryd.isAgg167
  z146 := Tryd.sizeOf167
  v146 := Tryd.zeroValue167
  g1 := by kernel_rfl }
open Go.RowKit Go.Lib in
/-- strings.Contains: "Contains reports whether substr is within s.": IT RETURNS 'Lib.contains s substr'; the world is as it was. (LAID: no walk: one application.) -/
theorem Tryd.strings_Contains (s sub : ByteArray) (m : Int) (w : World) (hs : s.size < 4294967281) (hm : w.cell? ⟨4, 0, none⟩ = some (.int .i64 m)) :
    Calls Tryd.prog 40 #[.string s, .string sub] w fun e w' => e = .returned (.bool (Lib.contains s.data.toList sub.data.toList)) ∧ w' = w := Any.strings_Contains Tryd.lays144 s sub m w hs hm
def Tryd.lays146_ren : Go.Shelf.Ren := ⟨fun | 146 => 69 | 221 => 98 | 268 => 117 | 138 => 110 | 143 => 76 | 195 => 66 | 197 => 111 | 218 => 132 | 219 => 105 | 260 => 133 | 217 => 123 | 225 => 124 | 224 => 125 | 267 => 126 | 266 => 141 | 314 => 142 | n => n, fun | 9 => 9 | 31 => 42 | 3 => 3 | 4 => 4 | 0 => 0 | 105 => 136 | 21 => 21 | 5 => 5 | 46 => 128 | 119 => 107 | 139 => 127 | 138 => 126 | 146 => 167 | 51 => 133 | n => n, fun | 1 => 4 | 3 => 1 | 4 => 2 | n => n⟩
theorem Tryd.lays146 : Go.Proofs.Lays.n146 Tryd.prog Tryd.lays146_ren := {
  mixed := by kernel_rfl
  f138 := Tryd.func110.trans (congrArg some (by kernel_rfl))
  f143 := Tryd.func76.trans (congrArg some (by kernel_rfl))
  f146 := Tryd.func69.trans (congrArg some (by kernel_rfl))
  f195 := Tryd.func66.trans (congrArg some (by kernel_rfl))
  f197 := Tryd.func111.trans (congrArg some (by kernel_rfl))
  f217 := Tryd.func123.trans (congrArg some (by kernel_rfl))
  f218 := Tryd.func132.trans (congrArg some (by kernel_rfl))
  f219 := Tryd.func105.trans (congrArg some (by kernel_rfl))
  f221 := Tryd.func98.trans (congrArg some (by kernel_rfl))
  f224 := Tryd.func125.trans (congrArg some (by kernel_rfl))
  f225 := Tryd.func124.trans (congrArg some (by kernel_rfl))
  f260 := Tryd.func133.trans (congrArg some (by kernel_rfl))
  f266 := Tryd.func141.trans (congrArg some (by kernel_rfl))
  f267 := Tryd.func126.trans (congrArg some (by kernel_rfl))
  f268 := Tryd.func117.trans (congrArg some (by kernel_rfl))
  f314 := Tryd.func142.trans (congrArg some (by kernel_rfl))
  t0 := Tryd.underlying0
  a0 := Tryd.isAgg0
  z0 := Tryd.sizeOf0
  v0 := Tryd.zeroValue0
  t3 := Tryd.underlying3
  a3 := Tryd.isAgg3
  z3 := Tryd.sizeOf3
  v3 := Tryd.zeroValue3
  t4 := Tryd.underlying4
  a4 := Tryd.isAgg4
  z4 := Tryd.sizeOf4
  v4 := Tryd.zeroValue4
  t5 := Tryd.underlying5
  a5 := Tryd.isAgg5
  z5 := Tryd.sizeOf5
  v5 := Tryd.zeroValue5
  t9 := Tryd.underlying9
  a9 := Tryd.isAgg9
  z9 := Tryd.sizeOf9
  v9 := Tryd.zeroValue9
  t21 := Tryd.underlying21
  a21 := Tryd.isAgg21
  z21 := Tryd.sizeOf21
  v21 := Tryd.zeroValue21
  t31 := Tryd.underlying42
  a31 := Tryd.isAgg42
  z31 := Tryd.sizeOf42
  v31 := Tryd.zeroValue42
  t46 := Tryd.underlying128
  a46 := Tryd.isAgg128
  z46 := Tryd.sizeOf128
  v46 := Tryd.zeroValue128
  t51 := Tryd.underlying133
  a51 := Tryd.isAgg133
  z51 := Tryd.sizeOf133
  v51 := Tryd.zeroValue133
  t105 := Tryd.underlying136
  a105 := Tryd.isAgg136
  z105 := Tryd.sizeOf136
  v105 := Tryd.zeroValue136
  t119 := Tryd.underlying107
  a119 := Tryd.isAgg107
  z119 := Tryd.sizeOf107
  t138 := Tryd.underlying126
  a138 := Tryd.isAgg126
  z138 := Tryd.sizeOf126
  v138 := Tryd.zeroValue126
  t139 := Tryd.underlying127
  a139 := Tryd.isAgg127
  z139 := Tryd.sizeOf127
  v139 := Tryd.zeroValue127
  t146 := Tryd.underlying167
  a146 := Tryd.isAgg167
  z146 := Tryd.sizeOf167
  v146 := Tryd.zeroValue167
  g1 := by kernel_rfl
  g3 := by kernel_rfl
  g4 := by kernel_rfl }
open Go.RowKit Go.Lib in
/-- strings.Split. (LAID: no walk: one application.) -/
theorem Tryd.strings_Split (s sep : ByteArray) (m : Int) (w : World) (hs : s.size < 4294967281) (hm : w.cell? ⟨4, 0, none⟩ = some (.int .i64 m)) (h1 : 1 ≤ sep.size) :
    Calls Tryd.prog 69 #[.string s, .string sep] w fun e w' =>
      e = .returned (.slice (some ⟨w.heap.size, 0, none⟩) (Lib.countB s sep + 1) (Lib.countB s sep + 1)) ∧ w' = w.alloc (.cells ((Lib.splitB sep 0 (Lib.countB s sep) s).map Value.string).toArray 9) := Any.strings_Split Tryd.lays146 (by kernel_rfl) s sep m w hs hm h1
def Tryd.lays229_ren : Go.Shelf.Ren := ⟨fun | 229 => 56 | n => n, fun | 9 => 9 | 40 => 83 | 31 => 42 | 152 => 109 | 3 => 3 | 0 => 0 | 4 => 4 | 21 => 21 | 154 => 111 | n => n, fun | n => n⟩
theorem Tryd.lays229 : Go.Proofs.Lays.n229 Tryd.prog Tryd.lays229_ren := {
  mixed := by kernel_rfl
  f229 := Tryd.func56.trans (congrArg some (by kernel_rfl))
  t0 := Tryd.underlying0
  a0 := Tryd.isAgg0
  z0 := Tryd.sizeOf0
  v0 := Tryd.zeroValue0
  t3 := Tryd.underlying3
  a3 := Tryd.isAgg3
  z3 := Tryd.sizeOf3
  v3 := Tryd.zeroValue3
  t4 := Tryd.underlying4
  a4 := Tryd.isAgg4
  z4 := Tryd.sizeOf4
  v4 := Tryd.zeroValue4
  t9 := Tryd.underlying9
  a9 := Tryd.isAgg9
  z9 := Tryd.sizeOf9
  v9 := Tryd.zeroValue9
  t21 := Tryd.underlying21
  a21 := Tryd.isAgg21
  z21 := Tryd.sizeOf21
  v21 := Tryd.zeroValue21
  t31 := Tryd.underlying42
  a31 := Tryd.isAgg42
  z31 := Tryd.sizeOf42
  v31 := Tryd.zeroValue42
  t40 := Tryd.underlying83
  a40 := Tryd.isAgg83
  z40 := Tryd.sizeOf83
  v40 := Tryd.zeroValue83
  t152 := Tryd.underlying109
  a152 := Tryd.isAgg109
  z152 := Tryd.sizeOf109
  v152 := Tryd.zeroValue109
  t154 := Tryd.underlying111
  a154 := Tryd.isAgg111
  z154 := Tryd.sizeOf111
  v154 := Tryd.zeroValue111 }
open Go.RowKit Go.Lib in
/-- .. over a hand of the authors' house's premise as it stands. (LAID: no walk: one application.) -/
theorem Tryd.strings_FieldsFunc (g : Nat) (lb : Array Value) (eg : ∀ args w, (callFunc g args).run Tryd.prog w = .ok (.enter g args) w) (p : Nat → Bool) (s : ByteArray) (w : World) (hs : s.size ≤ 4294967296) (hp : PredAt Tryd.prog g lb encR p w) :
    Calls Tryd.prog 56 #[.string s, .func (.func g) #[] lb] w fun e w' => ∃ A, e = .returned (.slice (some ⟨A, 0, none⟩) (Lib.goFieldsP p s).length (Lib.goFieldsP p s).length) ∧ w.heap.size ≤ A ∧
      w'.ownsRow w.heap.size 9 1 (.slice (some ⟨A, 0, none⟩) (Lib.goFieldsP p s).length (Lib.goFieldsP p s).length) (Lib.goFieldsP p s).length ((Lib.goFieldsP p s).map Value.string) ∧ Below w.heap.size w w' := Any.strings_FieldsFunc Tryd.lays229 g lb eg p s w hs hp (by kernel_rfl) (by kernel_rfl)
def Tryd.lays196_ren : Go.Shelf.Ren := ⟨fun | 196 => 71 | 259 => 99 | n => n, fun | 9 => 9 | 4 => 4 | 3 => 3 | 5 => 5 | 12 => 12 | 119 => 107 | 0 => 0 | 46 => 128 | 139 => 127 | 138 => 126 | 53 => 142 | n => n, fun | 3 => 1 | 4 => 2 | n => n⟩
theorem Tryd.lays196 : Go.Proofs.Lays.n196 Tryd.prog Tryd.lays196_ren := {
  mixed := by kernel_rfl
  f196 := Tryd.func71.trans (congrArg some (by kernel_rfl))
  f259 := Tryd.func99.trans (congrArg some (by kernel_rfl))
  t0 := Tryd.underlying0
  a0 := Tryd.isAgg0
  z0 := Tryd.sizeOf0
  v0 := Tryd.zeroValue0
  t3 := Tryd.underlying3
  a3 := Tryd.isAgg3
  z3 := Tryd.sizeOf3
  v3 := Tryd.zeroValue3
  t4 := Tryd.underlying4
  a4 := Tryd.isAgg4
  z4 := Tryd.sizeOf4
  v4 := Tryd.zeroValue4
  t5 := Tryd.underlying5
  a5 := Tryd.isAgg5
  z5 := Tryd.sizeOf5
  v5 := Tryd.zeroValue5
  t9 := Tryd.underlying9
  a9 := Tryd.isAgg9
  z9 := Tryd.sizeOf9
  v9 := Tryd.zeroValue9
  t12 := Tryd.underlying12
  a12 := Tryd.isAgg12
  z12 := Tryd.sizeOf12
  v12 := Tryd.zeroValue12
  t46 := Tryd.underlying128
  a46 := Tryd.isAgg128
  z46 := Tryd.sizeOf128
  v46 := Tryd.zeroValue128
  t53 := Tryd.underlying142
  a53 := Tryd.isAgg142
  z53 := Tryd.sizeOf142
  v53 := Tryd.zeroValue142
  t119 := Tryd.underlying107
  a119 := Tryd.isAgg107
  z119 := Tryd.sizeOf107
  t138 := Tryd.underlying126
  a138 := Tryd.isAgg126
  z138 := Tryd.sizeOf126
  v138 := Tryd.zeroValue126
  t139 := Tryd.underlying127
  a139 := Tryd.isAgg127
  z139 := Tryd.sizeOf127
  v139 := Tryd.zeroValue127
  g3 := by kernel_rfl
  g4 := by kernel_rfl }
open Go.RowKit Go.Lib in
theorem Tryd.utf8_ValidString (s : ByteArray) (w : World) (hs : s.size ≤ 9223372036854775807) (hT : Lib.Utf8Tabs 1 2 w) :
    Calls Tryd.prog 71 #[.string s] w fun e w' => e = .returned (.bool (Lib.validD s.data.toList)) ∧ Below w.heap.size w w' := Any.utf8_ValidString Tryd.lays196 s w hs hT
open Go.RowKit Go.Lib in
theorem Tryd.strings_TrimRight_laid (s cutset : ByteArray) (w : World) (hs : s.size ≤ 9223372036854775807) (hcs : cutset.size < 4294967281) (hascii : ∀ (j : Nat) b, cutset.data.toList[j]? = some b → b.toNat < 128) :
    Calls Tryd.prog 61 #[.string s, .string cutset] w fun e w' => e = .returned (.string ⟨(Lib.trimRightS s.data.toList cutset.data.toList).toArray⟩) ∧ Below w.heap.size w w' := Any.strings_TrimRight_laid Tryd.lays162 (by kernel_rfl) s cutset w hs hcs hascii
def Tryd.laysEqTok_ren : Go.Shelf.Ren := ⟨fun | 8 => 20 | n => n, fun | 22 => 24 | 24 => 30 | 4 => 4 | 3 => 3 | 0 => 0 | n => n, fun | n => n⟩
theorem Tryd.laysEqTok : Go.Proofs.SlLaysQ.n8 Tryd.prog Tryd.laysEqTok_ren := {
  mixed := by kernel_rfl
  f8 := ⟨Tryd.f20.name, by decide, Tryd.func20.trans (congrArg some (by kernel_rfl))⟩
  t0 := Tryd.underlying0
  a0 := Tryd.isAgg0
  z0 := Tryd.sizeOf0
  v0 := Tryd.zeroValue0
  t3 := Tryd.underlying3
  a3 := Tryd.isAgg3
  z3 := Tryd.sizeOf3
  v3 := Tryd.zeroValue3
  t4 := Tryd.underlying4
  a4 := Tryd.isAgg4
  z4 := Tryd.sizeOf4
  v4 := Tryd.zeroValue4
  t22 := Tryd.underlying24
  a22 := Tryd.isAgg24
  z22 := Tryd.sizeOf24
  v22 := Tryd.zeroValue24 }
end Go.Proofs
namespace Go.Proofs.YtheemefggkcfbaaDoor
open Go Go.Lib Go.RowKit Go.Shelf
/-- What the laid variables give, and the machine's limit for searching. -/
structure Env (w : World) : Prop where
  tabs : Lib.Utf8Tabs 1 2 w
  maxl : ∃ m : Int, w.cell? ⟨4, 0, none⟩ = some (.int .i64 m)
theorem cell_lt {w : World} {a : Addr} {v : Value} (hc : w.cell? a = some v) : a.block < w.heap.size := by
  rcases Nat.lt_or_ge a.block w.heap.size with h' | h'
  · exact h'
  · simp [World.cell?, Array.getElem?_eq_none h'] at hc
theorem Env.below {w w' : World} (h : Env w) (hb : Below w.heap.size w w') : Env w' :=
  ⟨Utf8Tabs_below h.tabs hb, by obtain ⟨m, hm⟩ := h.maxl; exact ⟨m, (hb.cell (cell_lt hm)).trans hm⟩⟩
theorem below_grow {B : Nat} {w w1 w2 : World} (h : Below B w w1) (hz : B ≤ w1.heap.size) (h2 : Below w1.heap.size w1 w2) : Below B w w2 := h.trans (h2.mono hz)
theorem below_trans {a b c : World} (h : Below a.heap.size a b) (g : Below b.heap.size b c) : Below a.heap.size a c :=
  below_grow h h.size g
theorem heap_lt {w : World} {k : Nat} {o : Obj} (h : w.heap[k]? = some o) : k < w.heap.size := (Array.getElem?_eq_some_iff.1 h).1

set_option maxHeartbeats 4000000 in
set_option maxRecDepth 100000 in
theorem rvalid_any (s : ByteArray) (w : World) :
    Calls Tryd.prog 60 #[.string s] w fun e w' => e = .returned (.bool (validC s.data.toList)) ∧ Below w.heap.size w w' := by
  obtain ⟨Z, hZ⟩ : ∃ Z, validC s.data.toList = Z := ⟨_, rfl⟩
  rw [hZ]
  go_enter Tryd.func60, Tryd.ntmps60
  go_wp2
  go_loopg [4] s.size (fun gf s4 wx => ∃ (pos : Nat), wx.heap[w.heap.size]? = some (.stringIter s pos) ∧ Below w.heap.size w wx ∧ (runesAt s pos).all inR = Z ∧ s.size ≤ pos + gf)
  case atStart => exact ⟨0, World.iter_heap w s 0, below_iter _ _ _, hZ, by omega⟩
  case round =>
    obtain ⟨pos, hit, hbw, hc, hg⟩ := hrel
    by_cases hp : pos < s.size
    · obtain ⟨g', rfl⟩ : ∃ g', gk = g' + 1 := ⟨gk - 1, by omega⟩
      have hnx : ∀ ty, (Instr.next (.pointer (some ⟨w.heap.size, 0, none⟩)) true ty).run Tryd.prog wr = _ := fun ty => Lib.run_next_any_at wr w.heap.size s pos ty hit hp
      have hwd := Lib.decode_width_pos s pos hp
      rw [runesAt_step s pos hp] at hc
      have hle := Lib.rune_le s pos
      have hit2 := Lib.iterAt_heap wr w.heap.size s pos (pos + (Utf8.decode s pos).2) hit
      have hbw2 := Lib.below_iterAt hbw (k := w.heap.size) (Nat.le_refl _) s (pos + (Utf8.decode s pos).2)
      generalize (Utf8.decode s pos).2 = K at *
      generalize (Utf8.decode s pos).1 = R at *
      generalize wr.iterAt w.heap.size s (pos + K) = W at *
      have c := rindex_any (R : Int) W (by omega) (by omega)
      have hd : inR R = decide (0 ≤ idxR R) := rfl
      generalize idxR (R : Int) = I at *
      simp only [List.all_cons, hd] at hc
      clear hd
      by_cases hi : I < 0
      · have hcz : Z = false := by rw [← hc]; simp; omega
        go_wp2_with (refine c.mono ?_; rintro e w1 ⟨rfl, hb1⟩)
        go_ret
        exact ⟨ret_bool hcz.symm, below_grow hbw2 hbw2.size hb1⟩
      · have hcz : (runesAt s (pos + K)).all inR = Z := by rw [← hc]; simp; omega
        go_wp2_with (refine c.mono ?_; rintro e w1 ⟨rfl, hb1⟩)
        go_roundg g'
        case measure => omega
        case rel => exact ⟨pos + K, (hb1.block _ (heap_lt hit2)).trans hit2, below_grow hbw2 hbw2.size hb1, hcz, by omega⟩
    · have hnx : ∀ ty, (Instr.next (.pointer (some ⟨w.heap.size, 0, none⟩)) true ty).run Tryd.prog wr = _ := fun ty => Lib.run_next_end_at wr w.heap.size s pos ty hit hp
      rw [runesAt_end s pos hp] at hc
      go_wp2
      go_ret
      exact ⟨ret_bool (by rw [← hc]; rfl), hbw⟩

set_option maxHeartbeats 4000000 in
set_option maxRecDepth 100000 in
theorem valid_any (s : ByteArray) (w : World) (hs : s.size ≤ 9223372036854775807) (hE : Env w) :
    Calls Tryd.prog 58 #[.string s] w fun e w' => e = .returned (.bool (validC s.data.toList)) ∧ Below w.heap.size w w' := by
  have cV := Tryd.utf8_ValidString s w hs hE.tabs
  by_cases hv : validD s.data.toList = true
  case neg =>
    have hv' : validD s.data.toList = false := by simpa using hv
    rw [validD_false hv']
    rw [hv'] at cV
    clear hv hv'
    go_enter Tryd.func58, Tryd.ntmps58
    go_wp2_with (refine cV.mono ?_; rintro e w1 ⟨rfl, hb1⟩)
    go_ret
    exact ⟨rfl, hb1⟩
  obtain ⟨Z, hZ⟩ : ∃ Z, validC s.data.toList = Z := ⟨_, rfl⟩
  rw [hZ]
  rw [hv] at cV
  clear hv
  go_enter Tryd.func58, Tryd.ntmps58
  go_wp2_with (refine cV.mono ?_; rintro e w1 ⟨rfl, hb1⟩)
  go_loopg [4] s.size (fun gf s4 wx => ∃ (pos : Nat), wx.heap[w1.heap.size]? = some (.stringIter s pos) ∧ Below w1.heap.size w1 wx ∧ (runesAt s pos).all inR = Z ∧ s.size ≤ pos + gf)
  case atStart => exact ⟨0, World.iter_heap w1 s 0, below_iter _ _ _, hZ, by omega⟩
  case round =>
    obtain ⟨pos, hit, hbw, hc, hg⟩ := hrel
    by_cases hp : pos < s.size
    · obtain ⟨g', rfl⟩ : ∃ g', gk = g' + 1 := ⟨gk - 1, by omega⟩
      have hnx : ∀ ty, (Instr.next (.pointer (some ⟨w1.heap.size, 0, none⟩)) true ty).run Tryd.prog wr = _ := fun ty => Lib.run_next_any_at wr w1.heap.size s pos ty hit hp
      have hwd := Lib.decode_width_pos s pos hp
      rw [runesAt_step s pos hp] at hc
      have hle := Lib.rune_le s pos
      have hit2 := Lib.iterAt_heap wr w1.heap.size s pos (pos + (Utf8.decode s pos).2) hit
      have hbw2 := Lib.below_iterAt hbw (k := w1.heap.size) (Nat.le_refl _) s (pos + (Utf8.decode s pos).2)
      generalize (Utf8.decode s pos).2 = K at *
      generalize (Utf8.decode s pos).1 = R at *
      generalize wr.iterAt w1.heap.size s (pos + K) = W at *
      have c := index_any (R : Int) W (by omega) (by omega)
      have hd : inR R = decide (0 ≤ idxR R) := rfl
      generalize idxR (R : Int) = I at *
      simp only [List.all_cons, hd] at hc
      clear hd
      by_cases hi : I < 0
      · have hcz : Z = false := by rw [← hc]; simp; omega
        go_wp2_with (refine c.mono ?_; rintro e w2 ⟨rfl, hb2⟩)
        go_ret
        exact ⟨ret_bool hcz.symm, below_trans hb1 (below_grow hbw2 hbw2.size hb2)⟩
      · have hcz : (runesAt s (pos + K)).all inR = Z := by rw [← hc]; simp; omega
        go_wp2_with (refine c.mono ?_; rintro e w2 ⟨rfl, hb2⟩)
        go_roundg g'
        case measure => omega
        case rel => exact ⟨pos + K, (hb2.block _ (heap_lt hit2)).trans hit2, below_grow hbw2 hbw2.size hb2, hcz, by omega⟩
    · have hnx : ∀ ty, (Instr.next (.pointer (some ⟨w1.heap.size, 0, none⟩)) true ty).run Tryd.prog wr = _ := fun ty => Lib.run_next_end_at wr w1.heap.size s pos ty hit hp
      rw [runesAt_end s pos hp] at hc
      go_wp2
      go_ret
      exact ⟨ret_bool (by rw [← hc]; rfl), below_trans hb1 hbw⟩

set_option maxHeartbeats 4000000 in
theorem len_any (s : ByteArray) (w : World) (hs : s.size < 9223372036854775807) (hE : Env w) :
    Calls Tryd.prog 25 #[.string s] w fun e w' => e = .returned (.int .i64 (lenC s.data.toList)) ∧ Below w.heap.size w w' := by
  have cV := valid_any s w (by omega) hE
  unfold lenC
  by_cases hv : validC s.data.toList = true
  · rw [if_pos hv]
    rw [hv] at cV
    clear hv
    have cR := fun w => Tryd.utf8_RuneCountInString s w hs
    rw [runeCount_runes] at cR
    generalize ((runes s.data.toList).length : Int) = N at *
    go_enter Tryd.func25, Tryd.ntmps25
    go_wp2_with (first | (refine cV.mono ?_; rintro e w1 ⟨rfl, hb1⟩) | (refine (cR _).mono ?_; rintro e w2 ⟨rfl, pos, rfl⟩))
    go_ret
    exact ⟨rfl, below_trans hb1 (below_iter _ _ _)⟩
  · have hv' : validC s.data.toList = false := by simpa using hv
    rw [if_neg hv]
    rw [hv'] at cV
    clear hv hv'
    go_enter Tryd.func25, Tryd.ntmps25
    go_wp2_with (refine cV.mono ?_; rintro e w1 ⟨rfl, hb1⟩)
    go_ret
    exact ⟨rfl, hb1⟩

/-- A slice that the call made: it owns these cells. -/
def Made (B : Nat) (E : TypeId) (size n : Nat) (xs : List Value) (w : World) (e : Ending) (w' : World) : Prop :=
  ∃ v, e = .returned v ∧ w'.ownsRow B E size v n xs ∧ Below w.heap.size w w'
theorem cells_new (W : World) (l : List Value) (T : TypeId) {b : Nat} (hb : b = W.heap.size) : ∀ j u, l[j]? = some u → (W.alloc (.cells l.toArray T)).cell? ((⟨b, 0, none⟩ : Addr).add j) = some u := by
  subst hb
  intro j u hu
  have e : (⟨W.heap.size, 0, none⟩ : Addr).add j = ⟨W.heap.size, j, none⟩ := by unfold Addr.add; split <;> simp_all
  rw [e, World.cell?_alloc_new]
  simpa using hu
theorem app_step {B : Nat} {E : TypeId} {size k : Nat} {v : Value} {xs : List Value} {w W1 w' : World} (hown : W1.ownsRow B E size v k xs) (hB : Below B w W1) (hz : B ≤ W1.heap.size) (hg : W1.grownBy w' v.ownBlock) : Below B w w' :=
  hB.grown hg hz (fun j hj => (hown.lt j hj).1)
theorem info21 : (Tryd.prog.info? 21).map (fun i => (i.zero, i.size, i.bytes)) = some (some (.int .i32 0), 1, 4) := by kernel_rfl
def rcells (l : List Nat) : List Value := l.map (fun r : Nat => Value.int .i32 (r : Int))
set_option maxHeartbeats 4000000 in
set_option maxRecDepth 100000 in
theorem rrunes_any (s : ByteArray) (w : World) (hs : s.size ≤ 1099511627776) :
    Calls Tryd.prog 96 #[.string s] w (Made w.heap.size 21 1 (runes s.data.toList).length (rcells (runes s.data.toList)) w) := by
  obtain ⟨i0, hi, hz0, hz1, hz2⟩ := info_parts info21
  go_enter Tryd.func96, Tryd.ntmps96
  go_wp2
  go_loopg [3] s.size (fun gf v wx => ∃ (pos : Nat) (d : List Nat), wx.heap[w.heap.size]? = some (.stringIter s pos) ∧ wx.ownsRow w.heap.size 21 1 v d.length (rcells d) ∧ Below w.heap.size w wx ∧ d ++ runesAt s pos = runes s.data.toList ∧ s.size ≤ pos + gf ∧ d.length ≤ pos ∧ pos ≤ s.size + 4)
  case atStart => exact ⟨0, [], World.iter_heap w s 0, World.ownsRow_nil _ _ _ _, below_iter _ _ _, rfl, by omega, by simp, by omega⟩
  case round =>
    obtain ⟨pos, d, hit, hown, hbw, hc, hg, hdp, hps⟩ := hrel
    by_cases hp : pos < s.size
    · obtain ⟨g', rfl⟩ : ∃ g', gk = g' + 1 := ⟨gk - 1, by omega⟩
      have hnx : ∀ ty, (Instr.next (.pointer (some ⟨w.heap.size, 0, none⟩)) true ty).run Tryd.prog wr = _ := fun ty => Lib.run_next_any_at wr w.heap.size s pos ty hit hp
      have hwd := Lib.decode_width_pos s pos hp
      have hwn : (Utf8.decode s pos).2 ≤ 4 := by
        rw [decode_N]; exact (decodeN_conts _ _ _ _ _).2.2.2
      rw [runesAt_step s pos hp] at hc
      have hit2 := Lib.iterAt_heap wr w.heap.size s pos (pos + (Utf8.decode s pos).2) hit
      have hbw2 := Lib.below_iterAt hbw (k := w.heap.size) (Nat.le_refl _) s (pos + (Utf8.decode s pos).2)
      have hown2 := own_iterAt hown hit (pos + (Utf8.decode s pos).2)
      have hne := own_ne_iter hown hit
      clear hown hbw hit
      generalize (Utf8.decode s pos).2 = K at *
      generalize (Utf8.decode s pos).1 = R at *
      generalize wr.iterAt w.heap.size s (pos + K) = W at *
      have hsz := hbw2.size
      go_wp2_with (at_builtin; refine wpList_append_own _ rfl _ _ 120 rfl w.heap.size 21 i0 _ 1 4 Tryd.underlying120 hi hz0 hz1 hz2 rfl (by decide) _ _ _ rfl (hown2.alloc _) ⟨W.heap.size, 0, none⟩ 1 1 [.int .i32 (R : Int)] rfl rfl ?c1 ?c2 ?c3 ?c4 ?c5 ?_)
      case c1 => exact cells_new _ _ _ rfl
      case c2 => simp [Value.oneCell']
      case c3 => unfold maxLen; omega
      case c4 => omega
      case c5 => simp; omega
      · intro v' w1 hown' hgrow _
        have R1 : w1.ownsRow w.heap.size 21 1 v' (d ++ [R]).length (rcells (d ++ [R])) := by
          rw [List.length_append]; unfold rcells at *; rw [List.map_append]; exact hown'
        have R2 := app_step (hown2.alloc _) (hbw2.alloc hsz _) (by simp; omega) hgrow
        have R3 : w1.heap[w.heap.size]? = some (.stringIter s (pos + K)) := (hgrow.block _ (by have := heap_lt hit2; simp; omega) hne).trans ((Below.heap_alloc _ _ _ (heap_lt hit2)).trans hit2)
        clear hown' hgrow hown2 hbw2
        go_wp2_with fail
        go_roundg g'
        case rel => exact ⟨pos + K, d ++ [R], R3, R1, R2, by rw [← hc]; simp, by omega, by simp; omega, by omega⟩
        case measure => omega
    · have hnx : ∀ ty, (Instr.next (.pointer (some ⟨w.heap.size, 0, none⟩)) true ty).run Tryd.prog wr = _ := fun ty => Lib.run_next_end_at wr w.heap.size s pos ty hit hp
      rw [runesAt_end s pos hp, List.append_nil] at hc
      subst hc
      go_wp2
      go_ret
      exact ⟨_, rfl, hown, hbw⟩
theorem own_len {w : World} {B e size n : Nat} {v : Value} {xs : List Value} (h : w.ownsRow B e size v n xs) : ∃ a c, v = .slice a n c := by
  rcases h.2 with ⟨rfl, h2⟩ | ⟨g, cap, cur, rfl, _⟩
  · exact ⟨none, 0, by rw [h2]⟩
  · exact ⟨_, _, rfl⟩
set_option maxHeartbeats 4000000 in
theorem rlen_any (s : ByteArray) (w : World) (hs : s.size ≤ 1099511627776) :
    Calls Tryd.prog 67 #[.string s] w fun e w' => e = .returned (.int .i64 (lenC s.data.toList)) ∧ Below w.heap.size w w' := by
  have cV := rvalid_any s w
  unfold lenC
  by_cases hv : validC s.data.toList = true
  · rw [if_pos hv]
    rw [hv] at cV
    clear hv
    have cR := fun w => rrunes_any s w hs
    generalize (runes s.data.toList).length = N at *
    generalize rcells (runes s.data.toList) = X at *
    go_enter Tryd.func67, Tryd.ntmps67
    go_wp2_with (first | (refine cV.mono ?_; rintro e w1 ⟨rfl, hb1⟩) | (refine (cR _).mono ?_; rintro e w2 ⟨v, rfl, ho, hb2⟩; obtain ⟨a, c, rfl⟩ := own_len ho))
    go_ret
    exact ⟨rfl, below_trans hb1 hb2⟩
  · have hv' : validC s.data.toList = false := by simpa using hv
    rw [if_neg hv]
    rw [hv'] at cV
    clear hv hv'
    go_enter Tryd.func67, Tryd.ntmps67
    go_wp2_with (refine cV.mono ?_; rintro e w1 ⟨rfl, hb1⟩)
    go_ret
    exact ⟨rfl, hb1⟩
end Go.Proofs.YtheemefggkcfbaaDoor
namespace Go.Proofs.YtheemefggkcfbaaDoor
open Go Go.Lib Go.RowKit Go.Shelf
/-- A block of bytes that the call made. -/
structure BRow (w : World) (b : Nat) (l : List UInt8) : Prop where
  cell : ∀ (j : Nat) (hj : j < l.length), w.cell? ⟨b, j, none⟩ = some (.int .u8 (l[j].toNat : Int))
  warm : ∀ j, j < l.length → w.frozen? ⟨b, j, none⟩ = false
theorem made_bytes (w : World) (s : ByteArray) : ∃ c W, (convert 9 98 (.string s)).run Tryd.prog w = .ok (.slice (some ⟨w.heap.size, 0, none⟩) s.size c) W ∧ BRow W w.heap.size s.data.toList ∧ Below w.heap.size w W := by
  refine ⟨_, _, run_bytes_of_string w 9 98 5 s Tryd.underlying9 Tryd.underlying98 Tryd.underlying5, ⟨fun j hj => ?_, fun j hj => ?_⟩, ?_⟩
  · rw [show w.heap.size = w.drew.heap.size from rfl, World.cell?_alloc_mark]
    have hj' : j < s.data.size := by simpa using hj
    have hj2 : j < s.size := hj'
    simp [bytesRow, Array.getElem?_append, hj2]
  · rw [show w.heap.size = w.drew.heap.size from rfl, World.frozen?_alloc_mark]
    have hj' : j < s.data.size := by simpa using hj
    have : j < (bytesRow s (grownCap w s.size 0 5)).size := by simp [bytesRow]; exact Nat.lt_of_lt_of_le hj' (Nat.le_add_right _ _)
    simp; omega
  · exact ((Below.refl _ w).drew).alloc (Nat.le_refl _) _
theorem BRow.set {w : World} {b : Nat} {l : List UInt8} (h : BRow w b l) (i : Nat) (hi : i < l.length) (x : UInt8) : BRow (w.setCell ⟨b, i, none⟩ (.int .u8 (x.toNat : Int))) b (l.set i x) := by
  refine ⟨fun j hj => ?_, fun j hj => ?_⟩
  · rw [List.length_set] at hj
    by_cases e : i = j
    · subst e
      rw [World.cell?_setCell_same _ _ _ (h.cell i hi)]; simp
    · rw [World.cell?_setCell_other _ _ _ _ (by simp), h.cell j hj]
      rw [List.getElem_set_ne e]
  · rw [List.length_set] at hj
    rw [World.frozen?_setCell]; exact h.warm j hj
theorem BRow.back {w : World} {b : Nat} {l : List UInt8} (h : BRow w b l) (c : Nat) (n : Nat) (hn : n = l.length) : (convert 98 9 (.slice (some ⟨b, 0, none⟩) n c)).run Tryd.prog w = .ok (.string ⟨l.toArray⟩) w := by
  subst hn
  exact run_convert_bytes_back w 98 9 5 ⟨b, 0, none⟩ c l Tryd.underlying98 Tryd.underlying5 Tryd.underlying9 (fun j hj => by
    have e : (⟨b, 0, none⟩ : Addr).add j = ⟨b, j, none⟩ := by unfold Addr.add; split <;> simp_all
    rw [e]; exact h.cell j hj)
/-- A letter as a small one. -/
def lowB (b : UInt8) : UInt8 := if 65 ≤ b.toNat ∧ b.toNat ≤ 90 then b + 32 else b
def low (l : List UInt8) : List UInt8 := l.map lowB
theorem lowB_yes (b : UInt8) (h : 65 ≤ b.toNat ∧ b.toNat ≤ 90) : (lowB b).toNat = b.toNat + 32 := by
  unfold lowB; rw [if_pos h, UInt8.toNat_add]; simp; omega
theorem lowB_no (b : UInt8) (h : ¬ (65 ≤ b.toNat ∧ b.toNat ≤ 90)) : lowB b = b := by
  unfold lowB; rw [if_neg h]
def lowAt (l : List UInt8) (i : Nat) : List UInt8 := (l.take i).map lowB ++ l.drop i
theorem lowAt_zero (l : List UInt8) : lowAt l 0 = l := by simp [lowAt]
theorem lowAt_all (l : List UInt8) : lowAt l l.length = low l := by simp [lowAt, low]
theorem lowAt_len (l : List UInt8) (i : Nat) : (lowAt l i).length = l.length := by simp [lowAt]; omega
theorem lowAt_get (l : List UInt8) (i : Nat) (h : i < l.length) : (lowAt l i)[i]'(by rw [lowAt_len]; exact h) = l[i] := by
  simp only [lowAt]
  rw [List.getElem_append_right (by simp; exact Nat.min_le_left _ _)]
  simp [Nat.min_eq_left (Nat.le_of_lt h)]
theorem lowAt_succ (l : List UInt8) (i : Nat) (h : i < l.length) : lowAt l (i + 1) = (lowAt l i).set i (lowB l[i]) := by
  simp only [lowAt]
  rw [List.set_append_right _ _ (by simp; exact Nat.min_le_left _ _), List.take_succ_eq_append_getElem h, List.drop_eq_getElem_cons h, List.map_append, List.append_assoc, List.length_map, List.length_take, Nat.min_eq_left (Nat.le_of_lt h), Nat.sub_self]
  rfl
theorem lowAt_same (l : List UInt8) (i : Nat) (h : i < l.length) (e : lowB l[i] = l[i]) : lowAt l (i + 1) = lowAt l i := by
  rw [lowAt_succ l i h, e]
  conv => lhs; rw [← lowAt_get l i h]
  rw [List.set_getElem_self]

set_option maxHeartbeats 4000000 in
set_option maxRecDepth 100000 in
theorem small_any (s : ByteArray) (w : World) (hs : s.size < 9223372036854775807) :
    Calls Tryd.prog 63 #[.string s] w fun e w' => e = .returned (.string ⟨(low s.data.toList).toArray⟩) ∧ Below w.heap.size w w' := by
  obtain ⟨c, W, hcv, hB, hb⟩ := made_bytes w s
  have hl : s.data.toList.length = s.size := by rw [← size_eq]
  generalize s.data.toList = l at *
  go_enter Tryd.func63, Tryd.ntmps63
  go_wp2_with fail
  go_loopw [10] (fun v wx => ∃ i : Nat, v = .int .i64 i ∧ i ≤ s.size ∧ BRow wx w.heap.size (lowAt l i) ∧ Below w.heap.size w wx) (fun v _ => s.size - (intOf v).toNat)
  case atStart => exact ⟨0, rfl, Nat.zero_le _, by rw [lowAt_zero]; exact hB, hb⟩
  case round =>
    clear hcv hB hb
    obtain ⟨i, rfl, hi, hB, hb⟩ := hrel
    by_cases hlt : i < s.size
    · have hil : i < l.length := by omega
      have hz : (i : Int) < (s.size : Int) := by omega
      have hc0 := hB.cell i (by rw [lowAt_len]; exact hil)
      rw [lowAt_get l i hil] at hc0
      have hf0 := hB.warm i (by rw [lowAt_len]; exact hil)
      have hx := (l[i]).toNat_lt
      by_cases hu : 65 ≤ (l[i]).toNat ∧ (l[i]).toNat ≤ 90
      · have hR := hB.set i (by rw [lowAt_len]; exact hil) (lowB l[i])
        rw [← lowAt_succ l i hil, lowB_yes _ hu] at hR
        have hb2 := hb.setCell (p := ⟨w.heap.size, i, none⟩) (Nat.le_refl _) (.int .u8 (((l[i]).toNat + 32 : Nat) : Int))
        obtain ⟨h1, h2⟩ := hu
        generalize (l[i]).toNat = x at *
        have h1z : (65 : Int) ≤ (x : Int) := by omega
        have h2z : (x : Int) ≤ 90 := by omega
        have he : ((x + 32 : Nat) : Int) = (x : Int) + 97 - 65 := by omega
        rw [he] at hR hb2
        clear hB hb
        go_wp2_with fail
        go_roundw
        case rel => exact ⟨i + 1, by go_num, by omega, hR, hb2⟩
        case measure => simp [intOf]; omega
      · have hR : BRow wr w.heap.size (lowAt l (i + 1)) := by rw [lowAt_same l i hil (lowB_no _ hu)]; exact hB
        generalize (l[i]).toNat = x at *
        by_cases h1 : 65 ≤ x
        · have h1z : (65 : Int) ≤ (x : Int) := by omega
          have h2z : ¬ (x : Int) ≤ 90 := by omega
          clear hB
          go_wp2_with fail
          go_roundw
          case rel => exact ⟨i + 1, by go_num, by omega, hR, hb⟩
          case measure => simp [intOf]; omega
        · have h1z : ¬ (65 : Int) ≤ (x : Int) := by omega
          clear hB
          go_wp2_with fail
          go_roundw
          case rel => exact ⟨i + 1, by go_num, by omega, hR, hb⟩
          case measure => simp [intOf]; omega
    · obtain rfl : i = s.size := by omega
      have hback := hB.back c s.size (by rw [lowAt_len]; exact hl.symm)
      rw [← hl, lowAt_all, hl] at hback
      clear hB
      go_wp2_with fail
      go_ret
      exact ⟨rfl, hb⟩

set_option maxHeartbeats 4000000 in
set_option maxRecDepth 100000 in
theorem rsmall_any (s : ByteArray) (w : World) (hs : s.size < 9223372036854775807) :
    Calls Tryd.prog 65 #[.string s] w fun e w' => e = .returned (.string ⟨(low s.data.toList).toArray⟩) ∧ Below w.heap.size w w' := by
  obtain ⟨c, W, hcv, hB, hb⟩ := made_bytes w s
  have hl : s.data.toList.length = s.size := by rw [← size_eq]
  generalize s.data.toList = l at *
  go_enter Tryd.func65, Tryd.ntmps65
  go_wp2_with fail
  go_loopw [10] (fun v wx => ∃ i : Nat, v = .int .i64 i ∧ i ≤ s.size ∧ BRow wx w.heap.size (lowAt l i) ∧ Below w.heap.size w wx) (fun v _ => s.size - (intOf v).toNat)
  case atStart => exact ⟨0, rfl, Nat.zero_le _, by rw [lowAt_zero]; exact hB, hb⟩
  case round =>
    clear hcv hB hb
    obtain ⟨i, rfl, hi, hB, hb⟩ := hrel
    by_cases hlt : i < s.size
    · have hil : i < l.length := by omega
      have hz : (i : Int) < (s.size : Int) := by omega
      have hc0 := hB.cell i (by rw [lowAt_len]; exact hil)
      rw [lowAt_get l i hil] at hc0
      have hf0 := hB.warm i (by rw [lowAt_len]; exact hil)
      have hx := (l[i]).toNat_lt
      by_cases hu : 65 ≤ (l[i]).toNat ∧ (l[i]).toNat ≤ 90
      · have hR := hB.set i (by rw [lowAt_len]; exact hil) (lowB l[i])
        rw [← lowAt_succ l i hil, lowB_yes _ hu] at hR
        have hb2 := hb.setCell (p := ⟨w.heap.size, i, none⟩) (Nat.le_refl _) (.int .u8 (((l[i]).toNat + 32 : Nat) : Int))
        obtain ⟨h1, h2⟩ := hu
        generalize (l[i]).toNat = x at *
        have h1z : (65 : Int) ≤ (x : Int) := by omega
        have h2z : (x : Int) ≤ 90 := by omega
        have he : ((x + 32 : Nat) : Int) = (x : Int) + 32 := by omega
        rw [he] at hR hb2
        clear hB hb
        go_wp2_with fail
        go_roundw
        case rel => exact ⟨i + 1, by go_num, by omega, hR, hb2⟩
        case measure => simp [intOf]; omega
      · have hR : BRow wr w.heap.size (lowAt l (i + 1)) := by rw [lowAt_same l i hil (lowB_no _ hu)]; exact hB
        generalize (l[i]).toNat = x at *
        by_cases h1 : 65 ≤ x
        · have h1z : (65 : Int) ≤ (x : Int) := by omega
          have h2z : ¬ (x : Int) ≤ 90 := by omega
          clear hB
          go_wp2_with fail
          go_roundw
          case rel => exact ⟨i + 1, by go_num, by omega, hR, hb⟩
          case measure => simp [intOf]; omega
        · have h1z : ¬ (65 : Int) ≤ (x : Int) := by omega
          clear hB
          go_wp2_with fail
          go_roundw
          case rel => exact ⟨i + 1, by go_num, by omega, hR, hb⟩
          case measure => simp [intOf]; omega
    · obtain rfl : i = s.size := by omega
      have hback := hB.back c s.size (by rw [lowAt_len]; exact hl.symm)
      rw [← hl, lowAt_all, hl] at hback
      clear hB
      go_wp2_with fail
      go_ret
      exact ⟨rfl, hb⟩
end Go.Proofs.YtheemefggkcfbaaDoor
namespace Go.Proofs.YtheemefggkcfbaaDoor
open Go Go.Lib Go.RowKit Go.Shelf
theorem idx_str (s : ByteArray) (i : Nat) (h : i < s.size) (w : World) : (Instr.index 9 (.string s) (.int .i64 (i : Int))).run Tryd.prog w = .ok (.int .u8 ((s.data.toList.getD i 0).toNat : Int)) w := by
  rw [run_index_string w 9 s .i64 i Tryd.underlying9, dif_pos ⟨by omega, by omega⟩]
  have h2 : i < s.data.size := h
  have e : s.data.toList.getD i 0 = s[i]'h := by
    rw [List.getD_eq_getElem?_getD, Array.getElem?_toList, Array.getElem?_eq_getElem h2]; rfl
  rw [e]; rfl
theorem slc_str (s : ByteArray) (i j : Nat) (h1 : i ≤ j) (h : j ≤ s.size) (w : World) : (Instr.slice 9 (.string s) (some (.int .i64 (i : Int))) (some (.int .i64 (j : Int))) none).run Tryd.prog w = .ok (strV (pieceU s.data.toList i j)) w := by
  rw [run_slice_string w 9 s .i64 .i64 i j Tryd.underlying9 (by omega) (by omega) (by omega)]
  rw [Int.toNat_natCast, Int.toNat_natCast, piece_extract]; rfl
theorem strV_list (x : ByteArray) : strV x.data.toList = Value.string x := rfl
theorem piece_list (s : ByteArray) (a b : Nat) : pieceU s.data.toList a b = (s.extract a b).data.toList := by rw [extract_data]; rfl
theorem info9 : (Tryd.prog.info? 9).map (fun i => (i.zero, i.size, i.bytes)) = some (some (.string ⟨#[]⟩), 1, 16) := by kernel_rfl
def wcells (l : List (List UInt8)) : List Value := l.map strV
/-- What is left of a text's words at a place. -/
def restW (l : List UInt8) (from' i : Nat) : List (List UInt8) := if i ≤ l.length then wordsGo (pieceU l from' i) (l.drop i) else []
theorem restW_start (l : List UInt8) : restW l 0 0 = words l := by simp [restW, pieceU, words]
theorem restW_over (l : List UInt8) (a i : Nat) (h : l.length < i) : restW l a i = [] := by unfold restW; rw [if_neg (by omega)]
theorem piece_nil (l : List UInt8) (a : Nat) : pieceU l a a = [] := by simp [pieceU]
theorem restW_end (l : List UInt8) (a : Nat) : restW l a l.length = (if l.length ≤ a then [] else [pieceU l a l.length]) := by
  unfold restW
  rw [if_pos (Nat.le_refl _), List.drop_length]
  show (if pieceU l a l.length = [] then [] else [_]) = _
  by_cases h : l.length ≤ a
  · have e : pieceU l a l.length = [] := by simp [pieceU]; omega
    rw [if_pos e, if_pos h]
  · rw [if_neg (pieceU_ne l a _ (by omega) (Nat.le_refl _)), if_neg h]
theorem restW_le (l : List UInt8) (a i : Nat) (h : i ≤ l.length) : restW l a i = wordsGo (pieceU l a i) (l.drop i) := by unfold restW; rw [if_pos h]
theorem restW_sep (l : List UInt8) (a i : Nat) (hi : i < l.length) (ha : a ≤ i) (hs : isSep (l.getD i 0) = true) : restW l a i = (if i ≤ a then [] else [pieceU l a i]) ++ restW l (i + 1) (i + 1) := by
  rw [restW_le l a i (by omega), restW_le l _ _ (show i + 1 ≤ l.length by omega), getD_drop l i hi, wordsGo_cons, hs, if_pos rfl, piece_nil]
  congr 1
  by_cases h : i ≤ a
  · have e : pieceU l a i = [] := by
      obtain rfl : a = i := by omega
      exact piece_nil l a
    rw [if_pos e, if_pos h]
  · rw [if_neg (pieceU_ne l a _ (by omega) (by omega)), if_neg h]
theorem restW_in (l : List UInt8) (a i : Nat) (hi : i < l.length) (ha : a ≤ i) (hs : isSep (l.getD i 0) = false) : restW l a i = restW l a (i + 1) := by
  rw [restW_le l a i (by omega), restW_le l _ _ (show i + 1 ≤ l.length by omega), ← pieceU_grow l a i 1 ha, getD_drop l i hi, wordsGo_cons, hs, if_neg (by simp)]
  rfl
theorem wordsGo_len : ∀ (t cur : List UInt8), (wordsGo cur t).length ≤ t.length + 1
  | [], cur => by unfold wordsGo; split <;> simp
  | b :: t, cur => by
    rw [wordsGo_cons]
    split
    · rw [List.length_append]
      have := wordsGo_len t []
      have h2 : (if cur = [] then ([] : List (List UInt8)) else [cur]).length ≤ 1 := by split <;> simp
      simp; omega
    · have := wordsGo_len t (cur ++ [b])
      simp; omega
theorem sep_cases (b : UInt8) : (isSep b = true ∧ (b.toNat = 32 ∨ b.toNat = 10)) ∨ (isSep b = false ∧ b.toNat ≠ 32 ∧ b.toNat ≠ 10) := by
  have e : isSep b = sepR b.toNat := (sepR_toNat b).symm
  rw [e]
  unfold sepR
  by_cases h1 : b.toNat = 32
  · left; simp [h1]
  · by_cases h2 : b.toNat = 10
    · left; simp [h2]
    · right; simp [h1, h2]
theorem wd_step {B : Nat} {v' : Value} {w W1 w' : World} {d : List (List UInt8)} {x : List UInt8} {v : Value} (hown : W1.ownsRow B 9 1 v d.length (wcells d)) (hB : Below B w W1) (hz : B ≤ W1.heap.size)
    (h1 : w'.ownsRow B 9 1 v' (d.length + 1) (wcells d ++ [strV x])) (hg : W1.grownBy w' v.ownBlock) : w'.ownsRow B 9 1 v' (d ++ [x]).length (wcells (d ++ [x])) ∧ Below B w w' := by
  unfold wcells at *
  rw [List.length_append, List.map_append]; exact ⟨h1, app_step hown hB hz hg⟩

set_option maxHeartbeats 4000000 in
set_option maxRecDepth 100000 in
theorem rwords_any (s : ByteArray) (w : World) (hs : s.size ≤ 1099511627776) :
    Calls Tryd.prog 59 #[.string s] w (Made w.heap.size 9 1 (words s.data.toList).length (wcells (words s.data.toList)) w) := by
  obtain ⟨i0, hi, hz0, hz1, hz2⟩ := info_parts info9
  have hl : s.data.toList.length = s.size := by rw [← size_eq]
  have hidx := idx_str s
  have hpl := piece_list s
  have hst := restW_start s.data.toList
  have hend := restW_end s.data.toList
  have hsep := restW_sep s.data.toList
  have hin := restW_in s.data.toList
  have hov := restW_over s.data.toList
  generalize s.data.toList = l at *
  generalize words l = D at *
  go_enter Tryd.func59, Tryd.ntmps59
  have hs0 := World.ownsRow_lit (base := w.heap.size) (e := 9) (size := 1) w #[] 0 (Nat.le_refl _) (by unfold maxLen; omega) rfl
  go_wp2_with fail
  go_loopw [3, 4, 5] (fun v f5 i5 wx => ∃ (d : List (List UInt8)) (a i : Nat), f5 = .int .i64 a ∧ i5 = .int .i64 i ∧ i ≤ s.size + 1 ∧ a ≤ i ∧ d.length ≤ i ∧ wx.ownsRow w.heap.size 9 1 v d.length (wcells d) ∧ Below w.heap.size w wx ∧ d ++ restW l a i = D) (fun _ _ i5 _ => s.size + 1 - (intOf i5).toNat)
  case atStart => exact ⟨[], 0, 0, rfl, rfl, by omega, by omega, by simp, hs0, below1 _ (Nat.le_refl _), by rw [hst]; rfl⟩
  case round =>
    clear hs0 hst
    obtain ⟨d, a, i, rfl, rfl, hi', ha, hd, hown, hb, hD⟩ := hrel
    have hsz := hb.size
    by_cases hle : i ≤ s.size
    · by_cases heq : i = s.size
      · subst heq
        have hend2 := hend a
        rw [hl] at hend2
        rw [hend2] at hD
        clear hend2
        have hss : ((s.size : Int) == (s.size : Int)) = true := by simp
        by_cases hga : a < s.size
        · rw [if_neg (by omega)] at hD
          rw [hpl a s.size] at hD
          have hgz : (a : Int) < (s.size : Int) := by omega
          clear hidx hpl hend hsep hin
          go_wp2_with (at_builtin; refine wpList_append_own _ rfl _ _ 42 rfl w.heap.size 9 i0 _ 1 16 Tryd.underlying42 hi hz0 hz1 hz2 rfl (by decide) _ _ _ rfl (hown.alloc _) ⟨wr.heap.size, 0, none⟩ 1 1 [.string (s.extract a s.size)] rfl rfl ?c1 ?c2 ?c3 ?c4 ?c5 ?_)
          case c1 => exact cells_new _ _ _ rfl
          case c2 => simp [Value.oneCell']
          case c3 => unfold maxLen; omega
          case c4 => omega
          case c5 => simp; omega
          · intro v' w1 hown' hgrow _
            have R := wd_step (x := (s.extract a s.size).data.toList) (hown.alloc _) (hb.alloc hsz _) (by simp; omega) hown' hgrow
            clear hown' hgrow hown hb
            go_wp2_with fail
            go_roundw
            case rel => exact ⟨d ++ [(s.extract a s.size).data.toList], s.size + 1, s.size + 1, by go_num, by go_num, by omega, by omega, by simp; omega, R.1, R.2, by rw [hov _ _ (by omega), List.append_nil]; exact hD⟩
            case measure => simp [intOf]
        · rw [if_pos (by omega), List.append_nil] at hD
          have hgz : ¬ (a : Int) < (s.size : Int) := by omega
          clear hidx hpl hend hsep hin
          go_wp2_with fail
          go_roundw
          case rel => exact ⟨d, s.size + 1, s.size + 1, by go_num, by go_num, by omega, by omega, by omega, hown, hb, by rw [hov _ _ (by omega), List.append_nil]; exact hD⟩
          case measure => simp [intOf]
      · have hlt : i < s.size := by omega
        have hlz : (i : Int) < (s.size : Int) := by omega
        have hez : ((i : Int) == (s.size : Int)) = false := by simp; omega
        have hix := hidx i hlt
        rcases sep_cases (l.getD i 0) with ⟨hs1, hb1⟩ | ⟨hs1, hn1, hn2⟩
        · rw [hsep a i (by omega) ha hs1] at hD
          by_cases hga : a < i
          · rw [if_neg (by omega)] at hD
            rw [hpl a i] at hD
            have hgz : (a : Int) < (i : Int) := by omega
            clear hidx hpl hend hsep hin hs1
            generalize (l.getD i 0).toNat = y at *
            rcases hb1 with rfl | rfl
            all_goals
              go_wp2_with (at_builtin; refine wpList_append_own _ rfl _ _ 42 rfl w.heap.size 9 i0 _ 1 16 Tryd.underlying42 hi hz0 hz1 hz2 rfl (by decide) _ _ _ rfl (hown.alloc _) ⟨wr.heap.size, 0, none⟩ 1 1 [.string (s.extract a i)] rfl rfl ?c1 ?c2 ?c3 ?c4 ?c5 ?_)
              case c1 => exact cells_new _ _ _ rfl
              case c2 => simp [Value.oneCell']
              case c3 => unfold maxLen; omega
              case c4 => omega
              case c5 => simp; omega
              · intro v' w1 hown' hgrow _
                have R := wd_step (x := (s.extract a i).data.toList) (hown.alloc _) (hb.alloc hsz _) (by simp; omega) hown' hgrow
                clear hown' hgrow hown hb
                go_wp2_with fail
                go_roundw
                case rel => exact ⟨d ++ [(s.extract a i).data.toList], i + 1, i + 1, by go_num, by go_num, by omega, by omega, by simp; omega, R.1, R.2, by rw [List.append_assoc]; exact hD⟩
                case measure => simp [intOf]; omega
          · rw [if_pos (by omega), List.nil_append] at hD
            have hgz : ¬ (a : Int) < (i : Int) := by omega
            clear hidx hpl hend hsep hin hs1
            generalize (l.getD i 0).toNat = y at *
            rcases hb1 with rfl | rfl
            all_goals
              go_wp2_with fail
              go_roundw
              case rel => exact ⟨d, i + 1, i + 1, by go_num, by go_num, by omega, by omega, by omega, hown, hb, hD⟩
              case measure => simp [intOf]; omega
        · rw [hin a i (by omega) ha hs1] at hD
          clear hidx hpl hend hsep hin hs1
          generalize (l.getD i 0).toNat = y at *
          have h1z : ((y : Int) == 32) = false := by simp; omega
          have h2z : ((y : Int) == 10) = false := by simp; omega
          go_wp2_with fail
          go_roundw
          case rel => exact ⟨d, a, i + 1, rfl, by go_num, by omega, by omega, by omega, hown, hb, hD⟩
          case measure => simp [intOf]; omega
    · have hD2 := hD
      rw [hov a i (by omega), List.append_nil] at hD2
      subst hD2
      have hlz : ¬ (i : Int) ≤ (s.size : Int) := by omega
      go_wp2_with fail
      go_ret
      exact ⟨_, rfl, hown, hb⟩
end Go.Proofs.YtheemefggkcfbaaDoor
namespace Go.Proofs.YtheemefggkcfbaaDoor
open Go Go.Lib Go.RowKit Go.Shelf
set_option maxHeartbeats 1000000 in
theorem sepFn_any (r : Int) (w : World) : Calls Tryd.prog 57 #[.int .i32 r] w fun e w' => e = .returned (.bool (r == 32 || r == 10)) ∧ w = w' := by
  by_cases h1 : r = 32
  · subst h1
    go_enter Tryd.func57, Tryd.ntmps57
    go_wp2
    go_ret
    exact ⟨rfl, rfl⟩
  · have hf : (r == 32) = false := by simpa using h1
    go_enter Tryd.func57, Tryd.ntmps57
    go_wp2
    go_ret
    exact ⟨ret_bool (by simp [hf]), rfl⟩
theorem sep_int (x : Nat) : (((x : Int) == 32) || ((x : Int) == 10)) = sepR x := by
  unfold sepR
  congr 1
  · exact Bool.eq_iff_iff.2 (by simp; omega)
  · exact Bool.eq_iff_iff.2 (by simp; omega)
theorem sepFn_pred (w : World) : PredAt Tryd.prog 57 #[] encR sepR w := by
  intro W x _
  refine (sepFn_any (x : Int) W).mono ?_
  rintro e w' ⟨rfl, rfl⟩
  exact ⟨ret_bool (sep_int x), 0, rfl⟩
theorem enters57 : ∀ args w, (callFunc 57 args).run Tryd.prog w = .ok (.enter 57 args) w := enters_of Tryd.func57 (by kernel_rfl) rfl
theorem fields_any (s : ByteArray) (w : World) (hs : s.size ≤ 4294967296) :
    Calls Tryd.prog 56 #[.string s, .func (.func 57) #[] #[]] w (Made w.heap.size 9 1 (words s.data.toList).length (wcells (words s.data.toList)) w) := by
  refine (Tryd.strings_FieldsFunc 57 #[] enters57 sepR s w hs (sepFn_pred w)).mono ?_
  rintro e w' ⟨A, rfl, _, ho, hb⟩
  rw [goFieldsP_len, goFieldsP_words] at ho
  rw [goFieldsP_len]
  exact ⟨_, rfl, ho, hb⟩
/-- Whether a word is one of a list's. -/
def memW (x : List UInt8) (L : List (List UInt8)) : Bool := L.any (fun y => y == x)
theorem own_at {w : World} {B n : Nat} {a : Option Addr} {m c : Nat} {L : List (List UInt8)} (h : w.ownsRow B 9 1 (.slice a m c) n (wcells L)) (i : Nat) (hi : i < L.length) : ∃ g, a = some ⟨g, 0, none⟩ ∧ g < w.heap.size ∧ w.cell? ⟨g, i, none⟩ = some (strV (L.getD i [])) := by
  rcases h.2 with ⟨e, h0⟩ | ⟨g, cap, cur, e, hB, hh, hcap, hm, hsz, hx⟩
  · have := h.1
    simp [wcells] at this
    omega
  · obtain ⟨rfl, rfl, rfl⟩ : a = some ⟨g, 0, none⟩ ∧ m = n ∧ c = cap := by cases e; exact ⟨rfl, rfl, rfl⟩
    refine ⟨g, rfl, heap_lt hh, ?_⟩
    have h1 := h.1
    simp [wcells] at h1
    have hc : w.cell? ⟨g, i, none⟩ = cur[i]? := by
      unfold World.cell?; rw [hh]; simp
    rw [hc]
    have e2 : cur[i]? = (cur.toList.take (m * 1))[i]? := by
      rw [List.getElem?_take_of_lt (by omega)]; simp
    rw [e2, hx]
    simp [wcells, List.getElem?_map, List.getD, List.getElem?_eq_getElem hi]
theorem memW_step (x : List UInt8) (L : List (List UInt8)) (i : Nat) (hi : i < L.length) : memW x (L.drop i) = ((L.getD i [] == x) || memW x (L.drop (i + 1))) := by
  unfold memW
  rw [List.drop_eq_getElem_cons hi, List.any_cons, List.getD_eq_getElem?_getD, List.getElem?_eq_getElem hi]
  rfl
def ba (l : List UInt8) : ByteArray := ⟨l.toArray⟩
theorem ba_list (l : List UInt8) : (ba l).toList = l := by rw [toList_data]; rfl
theorem ba_size (l : List UInt8) : (ba l).size = l.length := by rw [size_eq]; rfl
theorem strV_ba (l : List UInt8) : strV l = .string (ba l) := rfl

theorem words_len (s : ByteArray) : (words s.data.toList).length ≤ s.size + 1 := by
  have := wordsGo_len s.data.toList []
  rw [← size_eq] at this
  exact this
set_option maxHeartbeats 4000000 in
set_option maxRecDepth 100000 in
theorem ramong_any (lst s : ByteArray) (w : World) (hs : lst.size ≤ 1099511627776) :
    Calls Tryd.prog 64 #[.string lst, .string s] w fun e w' => e = .returned (.bool (memW s.data.toList (words lst.data.toList))) ∧ Below w.heap.size w w' := by
  have c := rwords_any lst w hs
  have hsl : s.toList = s.data.toList := toList_data s
  have hLl := words_len lst
  generalize words lst.data.toList = L at *
  generalize s.data.toList = x at *
  obtain ⟨Z, hZ⟩ : ∃ Z, memW x L = Z := ⟨_, rfl⟩
  rw [hZ]
  go_enter Tryd.func64, Tryd.ntmps64
  go_wp2_with (refine c.mono ?_; rintro e w1 ⟨v, rfl, ho, hb⟩; obtain ⟨a, cp, rfl⟩ := own_len ho)
  go_loop [10] (fun v => ∃ i : Nat, v = .int .i64 i ∧ i ≤ L.length ∧ memW x (L.drop i) = Z) (fun v => L.length - (intOf v).toNat)
  case atStart => exact ⟨0, rfl, Nat.zero_le _, hZ⟩
  case round =>
    clear hZ
    obtain ⟨i, rfl, hi, hZ⟩ := hrel
    by_cases hlt : i < L.length
    · have hz : (i : Int) < (L.length : Int) := by omega
      obtain ⟨g, rfl, hg, hc⟩ := own_at ho i hlt
      rw [memW_step x L i hlt] at hZ
      rw [strV_ba] at hc
      have hq : ((ba (L.getD i [])).toList == s.toList) = (L.getD i [] == x) := by rw [ba_list, hsl]
      cases hyx : (L.getD i [] == x)
      · rw [hyx] at hq hZ
        rw [Bool.false_or] at hZ
        clear hyx hsl
        generalize ba (L.getD i []) = Y at *
        go_wp2_with fail
        go_round
        case rel => exact ⟨i + 1, by go_num, by omega, hZ⟩
        case measure => simp [intOf]; omega
      · rw [hyx] at hq hZ
        rw [Bool.true_or] at hZ
        subst hZ
        clear hyx hsl
        generalize ba (L.getD i []) = Y at *
        go_wp2_with fail
        go_ret
        exact ⟨rfl, hb⟩
    · obtain rfl : i = L.length := by omega
      rw [List.drop_length] at hZ
      have hz : ¬ (L.length : Int) < (L.length : Int) := by omega
      go_wp2_with fail
      go_ret
      exact ⟨ret_bool hZ, hb⟩

theorem own_made (w : World) (xs : List ByteArray) (h : xs.length ≤ maxLen) : (w.alloc (.cells (xs.map Value.string).toArray 9)).ownsRow w.heap.size 9 1 (.slice (some ⟨w.heap.size, 0, none⟩) xs.length xs.length) xs.length (wcells (xs.map (·.data.toList))) := by
  have h1 := World.ownsRow_lit (base := w.heap.size) (e := 9) (size := 1) w (xs.map Value.string).toArray xs.length (Nat.le_refl _) h (by simp)
  have e : (xs.map Value.string).toArray.toList = wcells (xs.map (·.data.toList)) := by
    unfold wcells; rw [List.map_map]; rfl
  rw [← e]; exact h1
/-- strings.Split of a list at its spaces. -/
theorem split_any (lst : ByteArray) (L : List (List UInt8)) (w : World) (hE : Env w) (hs : lst.size < 4294967281) (hn : (Lib.splitB ⟨#[32]⟩ 0 (Lib.countB lst ⟨#[32]⟩) lst).length = Lib.countB lst ⟨#[32]⟩ + 1) (hm : Lib.countB lst ⟨#[32]⟩ + 1 ≤ maxLen) (hL : (Lib.splitB ⟨#[32]⟩ 0 (Lib.countB lst ⟨#[32]⟩) lst).map (·.data.toList) = L) :
    Calls Tryd.prog 69 #[.string lst, .string ⟨#[32]⟩] w (Made w.heap.size 9 1 L.length (wcells L) w) := by
  obtain ⟨m, hm0⟩ := hE.maxl
  refine (Tryd.strings_Split lst ⟨#[32]⟩ m w hs hm0 (by decide)).mono ?_
  rintro e w' ⟨rfl, rfl⟩
  have h := own_made w (Lib.splitB ⟨#[32]⟩ 0 (Lib.countB lst ⟨#[32]⟩) lst) (by rw [hn]; exact hm)
  rw [hn, hL] at h
  have hl : L.length = Lib.countB lst ⟨#[32]⟩ + 1 := by rw [← hL, List.length_map, hn]
  rw [hl]
  exact ⟨_, rfl, h, below1 _ (Nat.le_refl _)⟩
set_option maxHeartbeats 4000000 in
set_option maxRecDepth 100000 in
theorem among_any (lst s : ByteArray) (L : List (List UInt8)) (w : World) (hLl : L.length ≤ 1000)
    (c : Calls Tryd.prog 69 #[.string lst, .string ⟨#[32]⟩] w (Made w.heap.size 9 1 L.length (wcells L) w)) :
    Calls Tryd.prog 62 #[.string s, .string lst] w fun e w' => e = .returned (.bool (memW s.data.toList L)) ∧ Below w.heap.size w w' := by
  have hsl : s.toList = s.data.toList := toList_data s
  generalize s.data.toList = x at *
  obtain ⟨Z, hZ⟩ : ∃ Z, memW x L = Z := ⟨_, rfl⟩
  rw [hZ]
  go_enter Tryd.func62, Tryd.ntmps62
  go_wp2_with (refine c.mono ?_; rintro e w1 ⟨v, rfl, ho, hb⟩; obtain ⟨a, cp, rfl⟩ := own_len ho)
  go_loop [10] (fun v => ∃ i : Nat, v = .int .i64 i ∧ i ≤ L.length ∧ memW x (L.drop i) = Z) (fun v => L.length - (intOf v).toNat)
  case atStart => exact ⟨0, rfl, Nat.zero_le _, hZ⟩
  case round =>
    clear hZ
    obtain ⟨i, rfl, hi, hZ⟩ := hrel
    by_cases hlt : i < L.length
    · have hz : (i : Int) < (L.length : Int) := by omega
      obtain ⟨g, rfl, hg, hc⟩ := own_at ho i hlt
      rw [memW_step x L i hlt] at hZ
      rw [strV_ba] at hc
      have hq : ((ba (L.getD i [])).toList == s.toList) = (L.getD i [] == x) := by rw [ba_list, hsl]
      cases hyx : (L.getD i [] == x)
      · rw [hyx] at hq hZ
        rw [Bool.false_or] at hZ
        clear hyx hsl
        generalize ba (L.getD i []) = Y at *
        go_wp2_with fail
        go_round
        case rel => exact ⟨i + 1, by go_num, by omega, hZ⟩
        case measure => simp [intOf]; omega
      · rw [hyx] at hq hZ
        rw [Bool.true_or] at hZ
        subst hZ
        clear hyx hsl
        generalize ba (L.getD i []) = Y at *
        go_wp2_with fail
        go_ret
        exact ⟨rfl, hb⟩
    · obtain rfl : i = L.length := by omega
      rw [List.drop_length] at hZ
      have hz : ¬ (L.length : Int) < (L.length : Int) := by omega
      go_wp2_with fail
      go_ret
      exact ⟨ret_bool hZ, hb⟩
end Go.Proofs.YtheemefggkcfbaaDoor
namespace Go.Proofs.YtheemefggkcfbaaDoor
open Go Go.Lib

/-! ### words of joined texts -/
theorem wordsGo_sep : ∀ (xs cur t : List UInt8) (b : UInt8), isSep b = true → wordsGo cur (xs ++ b :: t) = wordsGo cur xs ++ wordsGo [] t
  | [], cur, t, b, h => by
    rw [List.nil_append, wordsGo_cons, h, if_pos rfl]; rfl
  | x :: xs, cur, t, b, h => by
    rw [List.cons_append, wordsGo_cons, wordsGo_cons]
    by_cases hx : isSep x = true
    · rw [if_pos hx, if_pos hx, wordsGo_sep xs [] t b h, List.append_assoc]
    · rw [if_neg hx, if_neg hx, wordsGo_sep xs _ t b h]
theorem words_sep (xs t : List UInt8) (b : UInt8) (h : isSep b = true) : words (xs ++ b :: t) = words xs ++ words t := wordsGo_sep xs [] t b h
theorem words_nil : words [] = [] := rfl
theorem words_lead (t : List UInt8) (b : UInt8) (h : isSep b = true) : words (b :: t) = words t := by
  have := words_sep [] t b h
  simpa [words_nil] using this
/-- A word: not empty, and none of its bytes parts words. -/
def isW (x : List UInt8) : Prop := x ≠ [] ∧ ∀ b ∈ x, isSep b = false
theorem wordsGo_isW : ∀ (t cur : List UInt8), (∀ b ∈ cur, isSep b = false) → ∀ x ∈ wordsGo cur t, isW x
  | [], cur, hc, x, hx => by
    unfold wordsGo at hx
    by_cases h : cur = []
    · rw [if_pos h] at hx; cases hx
    · rw [if_neg h] at hx
      obtain rfl : x = cur := by simpa using hx
      exact ⟨h, hc⟩
  | b :: t, cur, hc, x, hx => by
    rw [wordsGo_cons] at hx
    by_cases hb : isSep b = true
    · rw [if_pos hb, List.mem_append] at hx
      rcases hx with hx | hx
      · by_cases h : cur = []
        · rw [if_pos h] at hx; cases hx
        · rw [if_neg h] at hx
          obtain rfl : x = cur := by simpa using hx
          exact ⟨h, hc⟩
      · exact wordsGo_isW t [] (fun b hb => by cases hb) x hx
    · rw [if_neg hb] at hx
      refine wordsGo_isW t (cur ++ [b]) (fun c hcm => ?_) x hx
      rw [List.mem_append] at hcm
      rcases hcm with hcm | hcm
      · exact hc c hcm
      · obtain rfl : c = b := by simpa using hcm
        simpa using hb
theorem words_isW (l : List UInt8) : ∀ x ∈ words l, isW x := wordsGo_isW l [] (fun b hb => by cases hb)
theorem words_one {x : List UInt8} (h : isW x) : words x = [x] := by
  have := wordsGo_pass x [] [] h.2
  rw [List.append_nil, List.nil_append] at this
  unfold words
  rw [this]
  show (if x = [] then [] else [x]) = _
  rw [if_neg h.1]
/-- Words with one space between any two. -/
def joinB : List (List UInt8) → List UInt8
  | [] => []
  | [x] => x
  | x :: y :: r => x ++ 32 :: joinB (y :: r)
theorem words_join : ∀ (L : List (List UInt8)), (∀ x ∈ L, isW x) → words (joinB L) = L
  | [], _ => rfl
  | [x], h => words_one (h x (by simp))
  | x :: y :: r, h => by
    show words (x ++ 32 :: joinB (y :: r)) = _
    rw [words_sep _ _ _ (by decide), words_one (h x (by simp)), words_join (y :: r) (fun z hz => h z (by simp [hz]))]
    rfl
theorem joinB_snoc : ∀ (L : List (List UInt8)) (x : List UInt8), L ≠ [] → joinB (L ++ [x]) = joinB L ++ 32 :: x
  | [], _, h => absurd rfl h
  | [y], x, _ => rfl
  | y :: z :: r, x, _ => by
    show y ++ 32 :: joinB (z :: r ++ [x]) = (y ++ 32 :: joinB (z :: r)) ++ 32 :: x
    rw [joinB_snoc (z :: r) x (by simp)]; simp
theorem words_spaces (a b : List UInt8) (feed : Bool) :
    words (10 :: (a ++ ((if feed then [32, 10, 10, 32] else [32, 32]) ++ (b ++ [32])))) = words (a ++ 32 :: b) := by
  have s32 : isSep 32 = true := by decide
  have s10 : isSep 10 = true := by decide
  have e : words (b ++ [32]) = words b := by
    rw [words_sep b [] 32 s32, words_nil, List.append_nil]
  rw [words_lead _ _ s10, words_sep a b 32 s32]
  cases feed
  · show words (a ++ 32 :: 32 :: (b ++ [32])) = _
    rw [words_sep _ _ _ s32, words_lead _ _ s32, e]
  · show words (a ++ 32 :: 10 :: 10 :: 32 :: (b ++ [32])) = _
    rw [words_sep _ _ _ s32, words_lead _ _ s10, words_lead _ _ s10, words_lead _ _ s32, e]

/-! ### runes of joined texts -/
theorem decodeN_less (n n' b0 b1 b2 b3 c1 c2 c3 : Nat) (hnn : n ≤ n') (hw : decodeN n b0 b1 b2 b3 ≠ (65533, 1))
    (e1 : 1 < n → c1 = b1) (e2 : 2 < n → c2 = b2) (e3 : 3 < n → c3 = b3) : decodeN n' b0 c1 c2 c3 = decodeN n b0 b1 b2 b3 := by
  by_cases h0 : b0 < 128
  · rw [decodeN_ascii _ _ _ _ _ h0, decodeN_ascii _ _ _ _ _ h0]
  · unfold decodeN at hw ⊢
    rw [if_neg h0] at hw ⊢
    rw [if_neg h0]
    by_cases hn : 1 < n
    · have E1 := e1 hn; subst E1
      by_cases hn2 : 2 < n
      · have E2 := e2 hn2; subst E2
        by_cases hn3 : 3 < n
        · have E3 := e3 hn3; subst E3
          simp only [hn, hn2, hn3, show 1 < n' by omega, show 2 < n' by omega, show 3 < n' by omega, true_and]
        · simp only [hn, hn2, hn3, show 1 < n' by omega, show 2 < n' by omega, true_and, false_and, and_false, if_false] at hw ⊢
          by_cases h5 : b0 / 8 = 30
          · exfalso
            rw [if_neg (by omega), if_neg (by omega)] at hw
            exact hw rfl
          · simp only [h5, false_and, if_false]
      · simp only [hn, hn2, show 1 < n' by omega, true_and, false_and, and_false, if_false] at hw ⊢
        by_cases h4 : b0 / 32 = 6 ∧ c1 / 64 = 2
        · rw [if_pos h4, if_pos h4]
        · rw [if_neg h4] at hw
          exact absurd rfl hw
    · simp only [hn, false_and, and_false, if_false] at hw
      exact absurd rfl hw
theorem getD_app (l t : List UInt8) (k : Nat) (h : k < l.length) : (l ++ t).getD k 0 = l.getD k 0 := by
  simp [List.getD, List.getElem?_append_left h]
theorem decodeL_app (l t : List UInt8) (hne : l ≠ []) (hv : decodeL l ≠ (65533, 1)) : decodeL (l ++ t) = decodeL l := by
  have hl : 0 < l.length := List.length_pos_iff.2 hne
  rw [decodeL_N] at hv
  rw [decodeL_N, decodeL_N, getD_app _ _ _ hl]
  refine decodeN_less _ _ _ _ _ _ _ _ _ (by rw [List.length_append]; omega) hv ?_ ?_ ?_
  all_goals (intro h; rw [getD_app _ _ _ h])
theorem runes_app : ∀ (n : Nat) (l t : List UInt8), l.length ≤ n → validD l = true → runes (l ++ t) = runes l ++ runes t
  | _, [], t, _, _ => by simp [runes_nil]
  | 0, _ :: _, _, h, _ => by simp at h
  | n + 1, b :: l, t, hl, h => by
    have hne : b :: l ≠ [] := by simp
    have hw := decodeL_width (b :: l)
    have hle := decodeL_le (b :: l) hne
    rw [validD_step _ hne] at h
    by_cases hb : (decodeL (b :: l)).1 = 65533 ∧ (decodeL (b :: l)).2 = 1
    · rw [if_pos hb] at h; cases h
    · rw [if_neg hb] at h
      have hd := decodeL_app (b :: l) t hne (fun e => hb (by rw [e]; exact ⟨rfl, rfl⟩))
      rw [runes_step _ hne, runes_step (b :: l ++ t) (by simp), hd, List.drop_append_of_le_length hle,
        runes_app n _ t (by rw [List.length_drop]; omega) h]
      rfl
theorem runes_word (l t : List UInt8) (h : validC l = true) : runes (l ++ 32 :: t) = runes l ++ 32 :: runes t := by
  rw [runes_app _ l _ (Nat.le_refl _) (validC_validD _ l (Nat.le_refl _) h), runes_ascii _ _ (by decide)]; rfl
/-- The number of characters of words with one space between any two. -/
def sumC : List (List UInt8) → Int
  | [] => 0
  | [x] => lenC x
  | x :: y :: r => lenC x + 1 + sumC (y :: r)
theorem valid_join : ∀ (L : List (List UInt8)), (∀ x ∈ L, validC x = true) → validC (joinB L) = true
  | [], _ => rfl
  | [x], h => h x (by simp)
  | x :: y :: r, h => by
    have ih := valid_join (y :: r) (fun z hz => h z (by simp [hz]))
    have hx := h x (by simp)
    have hr := runes_word x (joinB (y :: r)) hx
    show validC (x ++ 32 :: joinB (y :: r)) = true
    unfold validC at hx ih ⊢
    rw [hr, List.all_append, hx, List.all_cons, inR_space, ih]; rfl
theorem runes_join : ∀ (L : List (List UInt8)), (∀ x ∈ L, validC x = true) → ((runes (joinB L)).length : Int) = sumC L
  | [], _ => rfl
  | [x], h => by
    show _ = lenC x
    unfold lenC; rw [if_pos (h x (by simp))]; rfl
  | x :: y :: r, h => by
    have ih := runes_join (y :: r) (fun z hz => h z (by simp [hz]))
    have hx := h x (by simp)
    show ((runes (x ++ 32 :: joinB (y :: r))).length : Int) = lenC x + 1 + sumC (y :: r)
    rw [runes_word x _ hx, List.length_append, List.length_cons, ← ih]
    unfold lenC; rw [if_pos hx]
    omega
theorem len_join (L : List (List UInt8)) (h : ∀ x ∈ L, validC x = true) : lenC (joinB L) = sumC L := by
  unfold lenC; rw [if_pos (valid_join L h), runes_join L h]
/-- The sum of the words' own numbers of characters. -/
def sumL (L : List (List UInt8)) : Int := (L.map lenC).sum
theorem sumC_sum : ∀ (L : List (List UInt8)), L ≠ [] → sumC L = sumL L + ((L.length : Int) - 1)
  | [], h => absurd rfl h
  | [x], _ => by simp [sumC, sumL]
  | x :: y :: r, _ => by
    have ih := sumC_sum (y :: r) (by simp)
    show lenC x + 1 + sumC (y :: r) = _
    rw [ih]
    simp [sumL]; omega
/-- Len of token: the number of characters from a word on up to another. -/
def lenT (L : List (List UInt8)) (a b : Int) : Int := if a < 0 ∨ b < a ∨ (L.length : Int) < b then 0 else sumC ((L.drop a.toNat).take (b - a).toNat)
theorem sumC_app : ∀ (L M : List (List UInt8)), L ≠ [] → M ≠ [] → sumC (L ++ M) = sumC L + 1 + sumC M
  | [], _, h, _ => absurd rfl h
  | [x], M, _, h => by
    match M, h with
    | y :: r, _ => rfl
  | x :: y :: r, M, _, h => by
    have ih := sumC_app (y :: r) M (by simp) h
    show lenC x + 1 + sumC (y :: r ++ M) = lenC x + 1 + sumC (y :: r) + 1 + sumC M
    rw [ih]; omega
theorem lenT_adds (L : List (List UInt8)) (m : Int) (h1 : 1 ≤ m) (h2 : m < L.length) : lenT L 0 L.length = lenT L 0 m + 1 + lenT L m L.length := by
  unfold lenT
  rw [if_neg (by omega), if_neg (by omega), if_neg (by omega)]
  have e1 : (L.drop (0 : Int).toNat).take ((L.length : Int) - 0).toNat = L := by simp
  have e2 : (L.drop (0 : Int).toNat).take (m - 0).toNat = L.take m.toNat := by simp
  have e3 : (L.drop m.toNat).take ((L.length : Int) - m).toNat = L.drop m.toNat := by
    apply List.take_of_length_le; rw [List.length_drop]; omega
  rw [e1, e2, e3]
  conv => lhs; rw [← List.take_append_drop m.toNat L]
  apply sumC_app
  · intro h; have : min m.toNat L.length = 0 := by { rw [← List.length_take, h]; rfl }
    omega
  · intro h; have : L.length - m.toNat = 0 := by { rw [← List.length_drop, h]; rfl }
    omega
theorem lenT_all (L : List (List UInt8)) : lenT L 0 L.length = sumC L := by
  unfold lenT
  rw [if_neg (by omega)]; simp
end Go.Proofs.YtheemefggkcfbaaDoor
namespace Go.Proofs.YtheemefggkcfbaaDoor
open Go Go.Lib Go.RowKit Go.Shelf
def tightS : ByteArray := ⟨#[97, 32, 97, 110, 32, 116, 104, 101, 32, 111, 102, 32, 116, 111, 32, 105, 110, 32, 111, 110, 32, 97, 116, 32, 98, 121, 32, 102, 111, 114, 32, 102, 114, 111, 109, 32, 119, 105, 116, 104, 32, 109, 121, 32, 121, 111, 117, 114, 32, 104, 105, 115, 32, 104, 101, 114, 32, 105, 116, 115, 32, 111, 117, 114, 32, 116, 104, 101, 105, 114, 32, 110, 111]⟩
def joinedS : ByteArray := ⟨#[97, 110, 100, 32, 98, 117, 116, 32, 111, 114, 32, 98, 101, 99, 97, 117, 115, 101, 32, 116, 104, 97, 116, 32, 119, 104, 105, 99, 104, 32, 119, 104, 111, 32, 119, 104, 101, 110, 32, 105, 102, 32, 119, 104, 105, 108, 101, 32, 115, 111, 32, 97, 115]⟩
def tightW : List (List UInt8) := [[97], [97, 110], [116, 104, 101], [111, 102], [116, 111], [105, 110], [111, 110], [97, 116], [98, 121], [102, 111, 114], [102, 114, 111, 109], [119, 105, 116, 104], [109, 121], [121, 111, 117, 114], [104, 105, 115], [104, 101, 114], [105, 116, 115], [111, 117, 114], [116, 104, 101, 105, 114], [110, 111]]
def joinedW : List (List UInt8) := [[97, 110, 100], [98, 117, 116], [111, 114], [98, 101, 99, 97, 117, 115, 101], [116, 104, 97, 116], [119, 104, 105, 99, 104], [119, 104, 111], [119, 104, 101, 110], [105, 102], [119, 104, 105, 108, 101], [115, 111], [97, 115]]
theorem tight_words : words tightS.data.toList = tightW := by decide +kernel
theorem tight_count : Lib.countB tightS ⟨#[32]⟩ = 19 := by decide +kernel
theorem tight_split : (Lib.splitB ⟨#[32]⟩ 0 (Lib.countB tightS ⟨#[32]⟩) tightS).map (·.data.toList) = tightW := by decide +kernel
theorem tight_size : tightS.size = 73 := by decide +kernel
theorem tight_any (x : ByteArray) (w : World) (hE : Env w) :
    Calls Tryd.prog 62 #[.string x, .string tightS] w fun e w' => e = .returned (.bool (memW x.data.toList tightW)) ∧ Below w.heap.size w w' :=
  among_any tightS x tightW w (by decide) (split_any tightS tightW w hE (by rw [tight_size]; decide) (by have h := congrArg List.length tight_split; rw [List.length_map] at h; rw [h, tight_count]; rfl) (by rw [tight_count]; unfold maxLen; decide) tight_split)
theorem rtight_any (x : ByteArray) (w : World) :
    Calls Tryd.prog 64 #[.string tightS, .string x] w fun e w' => e = .returned (.bool (memW x.data.toList tightW)) ∧ Below w.heap.size w w' := by
  have h := ramong_any tightS x w (by rw [tight_size]; decide)
  rw [tight_words] at h
  exact h
theorem joined_words : words joinedS.data.toList = joinedW := by decide +kernel
theorem joined_count : Lib.countB joinedS ⟨#[32]⟩ = 11 := by decide +kernel
theorem joined_split : (Lib.splitB ⟨#[32]⟩ 0 (Lib.countB joinedS ⟨#[32]⟩) joinedS).map (·.data.toList) = joinedW := by decide +kernel
theorem joined_size : joinedS.size = 53 := by decide +kernel
theorem joined_any (x : ByteArray) (w : World) (hE : Env w) :
    Calls Tryd.prog 62 #[.string x, .string joinedS] w fun e w' => e = .returned (.bool (memW x.data.toList joinedW)) ∧ Below w.heap.size w w' :=
  among_any joinedS x joinedW w (by decide) (split_any joinedS joinedW w hE (by rw [joined_size]; decide) (by have h := congrArg List.length joined_split; rw [List.length_map] at h; rw [h, joined_count]; rfl) (by rw [joined_count]; unfold maxLen; decide) joined_split)
theorem rjoined_any (x : ByteArray) (w : World) :
    Calls Tryd.prog 64 #[.string joinedS, .string x] w fun e w' => e = .returned (.bool (memW x.data.toList joinedW)) ∧ Below w.heap.size w w' := by
  have h := ramong_any joinedS x w (by rw [joined_size]; decide)
  rw [joined_words] at h
  exact h

/-- The quotes and brackets behind a word. -/
def quoteL : List UInt8 := [34, 39, 41, 93]
def trimQ (l : List UInt8) : List UInt8 := Lib.trimRightS l quoteL
def lastB (l : List UInt8) : Nat := if l = [] then 0 else (l.getD (l.length - 1) 0).toNat
def minusL : List UInt8 := [45]
/-- The strength of a boundary. -/
def strW (w n : List UInt8) : Int :=
  if lastB (trimQ w) = 46 ∨ lastB (trimQ w) = 33 ∨ lastB (trimQ w) = 63 then 5
  else if lastB (trimQ w) = 58 ∨ lastB (trimQ w) = 59 ∨ w = minusL then 4
  else if lastB (trimQ w) = 44 then 3
  else if memW (low w) tightW = true then 0
  else if memW (low n) joinedW = true then 2
  else 1
theorem strW_range (w n : List UInt8) : 0 ≤ strW w n ∧ strW w n ≤ 5 := by
  unfold strW
  repeat' split
  all_goals omega
theorem minus_eq (s : ByteArray) : (s.toList == [45]) = decide (s.data.toList = minusL) := by
  rw [toList_data]
  exact Bool.eq_iff_iff.2 (by rw [beq_iff_eq, decide_eq_true_iff]; exact Iff.rfl)
theorem empty_eq (l : List UInt8) : (ba l).toList.isEmpty = decide (l = []) := by
  rw [ba_list]
  exact Bool.eq_iff_iff.2 (by simp)
theorem trimQ_len (l : List UInt8) : (trimQ l).length ≤ l.length := by
  unfold trimQ Lib.trimRightS
  rw [List.length_reverse]
  have h := (List.dropWhile_sublist (fun b => quoteL.contains b) (l := l.reverse)).length_le
  rw [List.length_reverse] at h
  exact h
theorem strW_def (w n : List UInt8) : strW w n = if lastB (trimQ w) = 46 ∨ lastB (trimQ w) = 33 ∨ lastB (trimQ w) = 63 then 5
  else if lastB (trimQ w) = 58 ∨ lastB (trimQ w) = 59 ∨ w = minusL then 4
  else if lastB (trimQ w) = 44 then 3
  else if memW (low w) tightW = true then 0
  else if memW (low n) joinedW = true then 2
  else 1 := rfl
theorem idx_ba (l : List UInt8) (h : l ≠ []) (w : World) : (Instr.index 9 (.string (ba l)) (.int .i64 (((ba l).size : Int) - 1))).run Tryd.prog w = .ok (.int .u8 (lastB l : Int)) w := by
  have hl : 0 < l.length := List.length_pos_iff.2 h
  have e := idx_str (ba l) (l.length - 1) (by rw [ba_size]; omega) w
  have e2 : ((ba l).size : Int) - 1 = ((l.length - 1 : Nat) : Int) := by rw [ba_size]; omega
  rw [e2, e]
  unfold lastB
  rw [if_neg h]
  rfl
end Go.Proofs.YtheemefggkcfbaaDoor
namespace Go.Proofs.YtheemefggkcfbaaDoor
open Go Go.Lib Go.RowKit Go.Shelf
set_option maxHeartbeats 4000000 in
set_option maxRecDepth 100000 in
theorem strength_any (s t : ByteArray) (w : World) (hs : s.size < 4294967281) (ht : t.size < 4294967281) (hE : Env w) :
    Calls Tryd.prog 21 #[.string s, .string t] w fun e w' => e = .returned (.int .i64 (strW s.data.toList t.data.toList)) ∧ Below w.heap.size w w' := by
  have cT := Tryd.strings_TrimRight_laid s ⟨#[34, 39, 41, 93]⟩ w (by omega) (by decide) (ascii_of_all (by decide))
  have cS := fun w => small_any s w (by omega)
  have cN := fun w => small_any t w (by omega)
  have cA := fun w hE => tight_any (ba (low s.data.toList)) w hE
  have cJ := fun w hE => joined_any (ba (low t.data.toList)) w hE
  have hm := minus_eq s
  have he := empty_eq (trimQ s.data.toList)
  have hix := idx_ba (trimQ s.data.toList)
  have hdef := strW_def s.data.toList t.data.toList
  have hTl : (ba (trimQ s.data.toList)).size < 4294967281 := by
    have h := trimQ_len s.data.toList
    rw [← size_eq] at h
    rw [ba_size]; omega
  have hTp : trimQ s.data.toList ≠ [] → 1 ≤ (ba (trimQ s.data.toList)).size := fun h => by
    rw [ba_size]; exact List.length_pos_iff.2 h
  have hB0 : trimQ s.data.toList = [] → lastB (trimQ s.data.toList) = 0 := fun h => by rw [h]; rfl
  rw [show Lib.trimRightS s.data.toList ((⟨#[34, 39, 41, 93]⟩ : ByteArray).data.toList) = trimQ s.data.toList from rfl] at cT
  rw [show (ba (low s.data.toList)).data.toList = low s.data.toList from rfl] at cA
  rw [show (ba (low t.data.toList)).data.toList = low t.data.toList from rfl] at cJ
  change ∀ w, Calls Tryd.prog 63 #[.string s] w fun e w' => e = .returned (.string (ba (low s.data.toList))) ∧ Below w.heap.size w w' at cS
  change ∀ w, Calls Tryd.prog 63 #[.string t] w fun e w' => e = .returned (.string (ba (low t.data.toList))) ∧ Below w.heap.size w w' at cN
  change Calls Tryd.prog 61 #[.string s, .string ⟨#[34, 39, 41, 93]⟩] w fun e w' => e = .returned (.string (ba (trimQ s.data.toList))) ∧ Below w.heap.size w w' at cT
  generalize strW s.data.toList t.data.toList = Z at *
  generalize lastB (trimQ s.data.toList) = B at *
  generalize ba (low s.data.toList) = S1 at *
  generalize ba (low t.data.toList) = T1 at *
  generalize memW (low s.data.toList) tightW = M1 at *
  generalize memW (low t.data.toList) joinedW = M2 at *
  generalize trimQ s.data.toList = T at *
  have Hdef := Lib.hid hdef
  have Hm := Lib.hid hm
  have He := Lib.hid he
  have HB0 := Lib.hid hB0
  clear hdef hm he hB0
  go_enter Tryd.func21, Tryd.ntmps21
  go_wp2_with fail
  refine cT.mono ?_
  rintro e w1 ⟨rfl, hb1⟩
  clear cT
  go_upto_if 10 with fail
  generalize (ba T).toList.isEmpty = E at *
  go_cut [6] (fun s6 wx => s6 = .int .u8 B ∧ w1 = wx)
  case first =>
    cases E
    · have hT : T ≠ [] := by have h := He.out; intro h'; simp [h'] at h
      have hix1 := hix hT
      have hTp1 := hTp hT
      clear hT
      go_wp2_with fail
      go_meet
      exact ⟨rfl, rfl⟩
    · have hT : T = [] := by have h := He.out; simpa using h.symm
      have hB := Lib.hid (HB0.out hT)
      clear hT
      go_wp2_with fail
      go_meet
      exact ⟨by rw [hB.out]; rfl, rfl⟩
  case rest =>
    obtain ⟨rfl, rfl⟩ := hcut
    clear hix hTl hTp He HB0
    have fin : ∀ n : Int, Z = n → Ending.returned (.int .i64 n) = Ending.returned (.int .i64 Z) := fun n h => by rw [h]
    have Fin := Lib.hid fin
    clear fin
    by_cases h46 : B = 46
    · subst h46
      have HZ : Hid (Z = 5) := by have h := Hdef.out; simp at h; exact Lib.hid h
      clear Hdef
      go_wp2_with fail
      go_ret
      exact ⟨Fin.out _ HZ.out, hb1⟩
    by_cases h33 : B = 33
    · subst h33
      have HZ : Hid (Z = 5) := by have h := Hdef.out; simp at h; exact Lib.hid h
      clear Hdef
      go_wp2_with fail
      go_ret
      exact ⟨Fin.out _ HZ.out, hb1⟩
    by_cases h63 : B = 63
    · subst h63
      have HZ : Hid (Z = 5) := by have h := Hdef.out; simp at h; exact Lib.hid h
      clear Hdef
      go_wp2_with fail
      go_ret
      exact ⟨Fin.out _ HZ.out, hb1⟩
    by_cases h58 : B = 58
    · subst h58
      have HZ : Hid (Z = 4) := by have h := Hdef.out; simp at h; exact Lib.hid h
      clear Hdef
      go_wp2_with fail
      go_ret
      exact ⟨Fin.out _ HZ.out, hb1⟩
    by_cases h59 : B = 59
    · subst h59
      have HZ : Hid (Z = 4) := by have h := Hdef.out; simp at h; exact Lib.hid h
      clear Hdef
      go_wp2_with fail
      go_ret
      exact ⟨Fin.out _ HZ.out, hb1⟩
    have z46 : ((B : Int) == 46) = false := by simp; omega
    have z33 : ((B : Int) == 33) = false := by simp; omega
    have z63 : ((B : Int) == 63) = false := by simp; omega
    have z58 : ((B : Int) == 58) = false := by simp; omega
    have z59 : ((B : Int) == 59) = false := by simp; omega
    by_cases hw : s.data.toList = minusL
    · have hm1 : (s.toList == [45]) = true := by rw [Hm.out]; simp [hw]
      have HZ : Hid (Z = 4) := by have h := Hdef.out; simp [h46, h33, h63, h58, h59, hw] at h; exact Lib.hid h
      clear Hdef
      clear hw
      go_wp2_with fail
      go_ret
      exact ⟨Fin.out _ HZ.out, hb1⟩
    have hm1 : (s.toList == [45]) = false := by rw [Hm.out]; simp [hw]
    by_cases h44 : B = 44
    · subst h44
      have HZ : Hid (Z = 3) := by have h := Hdef.out; simp [hw] at h; exact Lib.hid h
      clear Hdef
      clear hw
      go_wp2_with fail
      go_ret
      exact ⟨Fin.out _ HZ.out, hb1⟩
    have z44 : ((B : Int) == 44) = false := by simp; omega
    cases M1
    · cases M2
      · have HZ : Hid (Z = 1) := by have h := Hdef.out; simp [h46, h33, h63, h58, h59, h44, hw] at h; exact Lib.hid h
        clear Hdef
        clear hw
        go_wp2_with fail
        refine (cS _).mono ?_
        rintro e w2 ⟨rfl, hb2⟩
        go_wp2_with fail
        refine (cA _ (hE.below (below_trans hb1 hb2))).mono ?_
        rintro e w3 ⟨rfl, hb3⟩
        go_wp2_with fail
        refine (cN _).mono ?_
        rintro e w4 ⟨rfl, hb4⟩
        go_wp2_with fail
        refine (cJ _ (hE.below (below_trans (below_trans (below_trans hb1 hb2) hb3) hb4))).mono ?_
        rintro e w5 ⟨rfl, hb5⟩
        go_wp2_with fail
        go_ret
        exact ⟨Fin.out _ HZ.out, below_trans (below_trans (below_trans (below_trans hb1 hb2) hb3) hb4) hb5⟩
      · have HZ : Hid (Z = 2) := by have h := Hdef.out; simp [h46, h33, h63, h58, h59, h44, hw] at h; exact Lib.hid h
        clear Hdef
        clear hw
        go_wp2_with fail
        refine (cS _).mono ?_
        rintro e w2 ⟨rfl, hb2⟩
        go_wp2_with fail
        refine (cA _ (hE.below (below_trans hb1 hb2))).mono ?_
        rintro e w3 ⟨rfl, hb3⟩
        go_wp2_with fail
        refine (cN _).mono ?_
        rintro e w4 ⟨rfl, hb4⟩
        go_wp2_with fail
        refine (cJ _ (hE.below (below_trans (below_trans (below_trans hb1 hb2) hb3) hb4))).mono ?_
        rintro e w5 ⟨rfl, hb5⟩
        go_wp2_with fail
        go_ret
        exact ⟨Fin.out _ HZ.out, below_trans (below_trans (below_trans (below_trans hb1 hb2) hb3) hb4) hb5⟩
    · have HZ : Hid (Z = 0) := by have h := Hdef.out; simp [h46, h33, h63, h58, h59, h44, hw] at h; exact Lib.hid h
      clear Hdef
      clear hw
      go_wp2_with fail
      refine (cS _).mono ?_
      rintro e w2 ⟨rfl, hb2⟩
      go_wp2_with fail
      refine (cA _ (hE.below (below_trans hb1 hb2))).mono ?_
      rintro e w3 ⟨rfl, hb3⟩
      go_wp2_with fail
      go_ret
      exact ⟨Fin.out _ HZ.out, below_trans (below_trans hb1 hb2) hb3⟩
end Go.Proofs.YtheemefggkcfbaaDoor
namespace Go.Proofs.YtheemefggkcfbaaDoor
open Go Go.Lib Go.RowKit Go.Shelf
def szOf : Value → Nat
  | .string s => s.size
  | _ => 0
theorem snoc_of (l : List UInt8) (h : l ≠ []) : ∃ m b, l = m ++ [b] := ⟨l.dropLast, l.getLast h, (List.dropLast_concat_getLast h).symm⟩
theorem trimQ_snoc (m : List UInt8) (b : UInt8) : trimQ (m ++ [b]) = if quoteL.contains b then trimQ m else m ++ [b] := by
  unfold trimQ Lib.trimRightS
  rw [List.reverse_append, List.reverse_singleton, List.singleton_append, List.dropWhile_cons]
  split
  · rfl
  · simp
theorem lastB_snoc (m : List UInt8) (b : UInt8) : lastB (m ++ [b]) = b.toNat := by
  unfold lastB
  rw [if_neg (by simp)]
  simp
theorem quote_byte (b : UInt8) : quoteL.contains b = (b.toNat == 34 || b.toNat == 39 || b.toNat == 41 || b.toNat == 93) := by
  unfold quoteL
  simp only [List.contains_cons, List.contains_nil, Bool.or_false]
  have e : ∀ k : UInt8, (b == k) = (b.toNat == k.toNat) := fun k => Bool.eq_iff_iff.2 (by simp [← UInt8.toNat_inj])
  rw [e, e, e, e]
  simp [Bool.or_assoc]
theorem trimQ_nil : trimQ [] = [] := rfl
/-- One step of the reference's trimming. -/
theorem trim_step (l : List UInt8) (h : l ≠ []) : (lastB l = 34 ∨ lastB l = 39 ∨ lastB l = 41 ∨ lastB l = 93 → trimQ (l.take (l.length - 1)) = trimQ l) ∧ (¬ (lastB l = 34 ∨ lastB l = 39 ∨ lastB l = 41 ∨ lastB l = 93) → trimQ l = l) := by
  obtain ⟨m, b, rfl⟩ := snoc_of l h
  rw [lastB_snoc, trimQ_snoc, quote_byte]
  constructor
  · intro hq
    rw [if_pos (by simp; omega)]
    simp
  · intro hq
    rw [if_neg (by simp; omega)]
theorem slc_last (x : ByteArray) (h : 1 ≤ x.size) (w : World) : (Instr.slice 9 (.string x) none (some (.int .i64 ((x.size : Int) - 1))) none).run Tryd.prog w = .ok (.string (ba (x.data.toList.take (x.data.toList.length - 1)))) w := by
  have e : (x.size : Int) - 1 = ((x.size - 1 : Nat) : Int) := by omega
  rw [e]
  have e2 : x.extract 0 (x.size - 1) = ba (x.data.toList.take (x.data.toList.length - 1)) := by
    apply ByteArray.ext
    apply Array.toList_inj.1
    rw [extract_data, size_eq]
    simp [ba]
  rw [← e2]
  rw [run_slice_string_h (P := Tryd.prog) w 9 x Tryd.underlying9 .i64 ((x.size - 1 : Nat) : Int) (by omega) (by omega)]
  rfl
set_option maxHeartbeats 4000000 in
set_option maxRecDepth 100000 in
theorem rstrength_any (s t : ByteArray) (w : World) (hs : s.size < 4294967281) (ht : t.size < 4294967281) :
    Calls Tryd.prog 22 #[.string s, .string t] w fun e w' => e = .returned (.int .i64 (strW s.data.toList t.data.toList)) ∧ Below w.heap.size w w' := by
  have cS := fun w => rsmall_any s w (by omega)
  have cN := fun w => rsmall_any t w (by omega)
  have cA := fun w => rtight_any (ba (low s.data.toList)) w
  have cJ := fun w => rjoined_any (ba (low t.data.toList)) w
  have hm := minus_eq s
  have he := empty_eq (trimQ s.data.toList)
  have hix := idx_ba (trimQ s.data.toList)
  have hdef := strW_def s.data.toList t.data.toList
  have hTl : (ba (trimQ s.data.toList)).size < 4294967281 := by
    have h := trimQ_len s.data.toList
    rw [← size_eq] at h
    rw [ba_size]; omega
  have hTp : trimQ s.data.toList ≠ [] → 1 ≤ (ba (trimQ s.data.toList)).size := fun h => by
    rw [ba_size]; exact List.length_pos_iff.2 h
  have hB0 : trimQ s.data.toList = [] → lastB (trimQ s.data.toList) = 0 := fun h => by rw [h]; rfl
  obtain ⟨T, hTT⟩ : ∃ T, trimQ s.data.toList = T := ⟨_, rfl⟩
  have HTT := Lib.hid hTT
  rw [show (ba (low s.data.toList)).data.toList = low s.data.toList from rfl] at cA
  rw [show (ba (low t.data.toList)).data.toList = low t.data.toList from rfl] at cJ
  change ∀ w, Calls Tryd.prog 65 #[.string s] w fun e w' => e = .returned (.string (ba (low s.data.toList))) ∧ Below w.heap.size w w' at cS
  change ∀ w, Calls Tryd.prog 65 #[.string t] w fun e w' => e = .returned (.string (ba (low t.data.toList))) ∧ Below w.heap.size w w' at cN
  rw [hTT] at hdef he hix hTl hTp hB0
  clear hTT
  generalize strW s.data.toList t.data.toList = Z at *
  generalize ba (low s.data.toList) = S1 at *
  generalize ba (low t.data.toList) = T1 at *
  generalize memW (low s.data.toList) tightW = M1 at *
  generalize memW (low t.data.toList) joinedW = M2 at *
  have Hdef := Lib.hid hdef
  have Hm := Lib.hid hm
  have He := Lib.hid he
  have HB0 := Lib.hid hB0
  clear hdef hm he hB0
  go_enter Tryd.func22, Tryd.ntmps22
  go_upto_block 0 with fail
  go_cut [5] (fun s5 wx => s5 = .string (ba T) ∧ w = wx)
  case first =>
    go_wp2_with fail
    go_loop [5] (fun v => ∃ x : ByteArray, v = .string x ∧ x.size < 4294967281 ∧ Hid (trimQ x.data.toList = T)) (fun v => szOf v)
    case atStart => exact ⟨s, rfl, hs, HTT⟩
    case round =>
      clear hix hTl hTp He HB0 Hdef Hm HTT cS cN cA cJ
      obtain ⟨x, rfl, hxs, HX⟩ := hrel
      by_cases hx : x.data.toList = []
      · have hz : ¬ (0 : Int) < (x.size : Int) := by rw [size_eq, hx]; simp
        have HT : Hid (x = ba T) := by
          have h := HX.out
          rw [hx, trimQ_nil] at h
          refine Lib.hid (ByteArray.ext (Array.toList_inj.1 ?_))
          rw [hx, ← h]; rfl
        clear hx
        go_wp2_with fail
        go_meet
        exact ⟨by rw [HT.out], rfl⟩
      · have hp : 0 < x.data.toList.length := List.length_pos_iff.2 hx
        have hp1 : 1 ≤ x.size := by rw [size_eq]; exact hp
        have hz : (0 : Int) < (x.size : Int) := by omega
        have hix := idx_ba x.data.toList hx
        have hsl := slc_last x hp1
        obtain ⟨st1, st2⟩ := trim_step x.data.toList hx
        have hlen : (ba (x.data.toList.take (x.data.toList.length - 1))).size + 1 = x.size := by
          rw [ba_size, List.length_take, size_eq]; omega
        rw [show ba x.data.toList = x from rfl] at hix
        have hlist : (ba (x.data.toList.take (x.data.toList.length - 1))).data.toList = x.data.toList.take (x.data.toList.length - 1) := rfl
        generalize ba (x.data.toList.take (x.data.toList.length - 1)) = Y at *
        rw [← hlist] at st1
        generalize lastB x.data.toList = L at *
        have go : (L = 34 ∨ L = 39 ∨ L = 41 ∨ L = 93) → Hid (trimQ Y.data.toList = T) := fun h => Lib.hid ((st1 h).trans HX.out)
        have stop : ¬ (L = 34 ∨ L = 39 ∨ L = 41 ∨ L = 93) → Hid (x = ba T) := fun h => by
          have h2 := HX.out
          rw [st2 h] at h2
          exact Lib.hid (ByteArray.ext (Array.toList_inj.1 h2))
        clear st1 st2 hlist hx HX
        by_cases c1 : L = 34
        · subst c1
          have G := go (by simp)
          clear go stop
          go_wp2_with fail
          go_round
          case rel => exact ⟨Y, rfl, by omega, G⟩
          case measure => simp [szOf]; omega
        · by_cases c2 : L = 39
          · subst c2
            have G := go (by simp)
            clear go stop
            go_wp2_with fail
            go_round
            case rel => exact ⟨Y, rfl, by omega, G⟩
            case measure => simp [szOf]; omega
          · by_cases c3 : L = 41
            · subst c3
              have G := go (by simp)
              clear go stop
              go_wp2_with fail
              go_round
              case rel => exact ⟨Y, rfl, by omega, G⟩
              case measure => simp [szOf]; omega
            · by_cases c4 : L = 93
              · subst c4
                have G := go (by simp)
                clear go stop
                go_wp2_with fail
                go_round
                case rel => exact ⟨Y, rfl, by omega, G⟩
                case measure => simp [szOf]; omega
              · have G := stop (by omega)
                have z1 : ((L : Int) == 34) = false := by simp; omega
                have z2 : ((L : Int) == 39) = false := by simp; omega
                have z3 : ((L : Int) == 41) = false := by simp; omega
                have z4 : ((L : Int) == 93) = false := by simp; omega
                clear go stop c1 c2 c3 c4
                go_wp2_with fail
                go_meet
                exact ⟨by rw [G.out], rfl⟩
  case rest =>
    obtain ⟨rfl, rfl⟩ := hcut
    clear HTT
    generalize lastB T = B at *
    go_upto_if 50 with fail
    obtain ⟨E, hE⟩ : ∃ E, (ba T).toList.isEmpty = E := ⟨_, rfl⟩
    go_cut [6] (fun s6 wx => s6 = .int .u8 B ∧ w = wx)
    case first =>
      cases E
      · have hT : T ≠ [] := by rw [He.out] at hE; intro h'; simp [h'] at hE
        have hix1 := hix hT
        have hTp1 := hTp hT
        have hz : (0 : Int) < ((ba T).size : Int) := by omega
        clear hT hE
        go_wp2_with fail
        go_meet
        exact ⟨rfl, rfl⟩
      · have hT : T = [] := by rw [He.out] at hE; simpa using hE
        have hB := Lib.hid (HB0.out hT)
        have hz : ¬ (0 : Int) < ((ba T).size : Int) := by rw [ba_size, hT]; simp
        clear hT hE
        go_wp2_with fail
        go_meet
        exact ⟨by rw [hB.out]; rfl, rfl⟩
    case rest =>
      obtain ⟨rfl, rfl⟩ := hcut
      clear hix hTl hTp He HB0 hE
      have fin : ∀ n : Int, Z = n → Ending.returned (.int .i64 n) = Ending.returned (.int .i64 Z) := fun n h => by rw [h]
      have Fin := Lib.hid fin
      clear fin
      by_cases h46 : B = 46
      · subst h46
        have HZ : Hid (Z = 5) := by have h := Hdef.out; simp at h; exact Lib.hid h
        clear Hdef
        go_wp2_with fail
        go_ret
        exact ⟨Fin.out _ HZ.out, Below.refl _ _⟩
      by_cases h33 : B = 33
      · subst h33
        have HZ : Hid (Z = 5) := by have h := Hdef.out; simp at h; exact Lib.hid h
        clear Hdef
        go_wp2_with fail
        go_ret
        exact ⟨Fin.out _ HZ.out, Below.refl _ _⟩
      by_cases h63 : B = 63
      · subst h63
        have HZ : Hid (Z = 5) := by have h := Hdef.out; simp at h; exact Lib.hid h
        clear Hdef
        go_wp2_with fail
        go_ret
        exact ⟨Fin.out _ HZ.out, Below.refl _ _⟩
      by_cases h58 : B = 58
      · subst h58
        have HZ : Hid (Z = 4) := by have h := Hdef.out; simp at h; exact Lib.hid h
        clear Hdef
        go_wp2_with fail
        go_ret
        exact ⟨Fin.out _ HZ.out, Below.refl _ _⟩
      by_cases h59 : B = 59
      · subst h59
        have HZ : Hid (Z = 4) := by have h := Hdef.out; simp at h; exact Lib.hid h
        clear Hdef
        go_wp2_with fail
        go_ret
        exact ⟨Fin.out _ HZ.out, Below.refl _ _⟩
      have z46 : ((B : Int) == 46) = false := by simp; omega
      have z33 : ((B : Int) == 33) = false := by simp; omega
      have z63 : ((B : Int) == 63) = false := by simp; omega
      have z58 : ((B : Int) == 58) = false := by simp; omega
      have z59 : ((B : Int) == 59) = false := by simp; omega
      by_cases hw : s.data.toList = minusL
      · have hm1 : (s.toList == [45]) = true := by rw [Hm.out]; simp [hw]
        have HZ : Hid (Z = 4) := by have h := Hdef.out; simp [h46, h33, h63, h58, h59, hw] at h; exact Lib.hid h
        clear Hdef
        clear hw
        go_wp2_with fail
        go_ret
        exact ⟨Fin.out _ HZ.out, Below.refl _ _⟩
      have hm1 : (s.toList == [45]) = false := by rw [Hm.out]; simp [hw]
      by_cases h44 : B = 44
      · subst h44
        have HZ : Hid (Z = 3) := by have h := Hdef.out; simp [hw] at h; exact Lib.hid h
        clear Hdef
        clear hw
        go_wp2_with fail
        go_ret
        exact ⟨Fin.out _ HZ.out, Below.refl _ _⟩
      have z44 : ((B : Int) == 44) = false := by simp; omega
      cases M1
      · cases M2
        · have HZ : Hid (Z = 1) := by have h := Hdef.out; simp [h46, h33, h63, h58, h59, h44, hw] at h; exact Lib.hid h
          clear Hdef
          clear hw
          go_wp2_with fail
          refine (cS _).mono ?_
          rintro e w2 ⟨rfl, hb2⟩
          go_wp2_with fail
          refine (cA _).mono ?_
          rintro e w3 ⟨rfl, hb3⟩
          go_wp2_with fail
          refine (cN _).mono ?_
          rintro e w4 ⟨rfl, hb4⟩
          go_wp2_with fail
          refine (cJ _).mono ?_
          rintro e w5 ⟨rfl, hb5⟩
          go_wp2_with fail
          go_ret
          exact ⟨Fin.out _ HZ.out, below_trans (below_trans (below_trans hb2 hb3) hb4) hb5⟩
        · have HZ : Hid (Z = 2) := by have h := Hdef.out; simp [h46, h33, h63, h58, h59, h44, hw] at h; exact Lib.hid h
          clear Hdef
          clear hw
          go_wp2_with fail
          refine (cS _).mono ?_
          rintro e w2 ⟨rfl, hb2⟩
          go_wp2_with fail
          refine (cA _).mono ?_
          rintro e w3 ⟨rfl, hb3⟩
          go_wp2_with fail
          refine (cN _).mono ?_
          rintro e w4 ⟨rfl, hb4⟩
          go_wp2_with fail
          refine (cJ _).mono ?_
          rintro e w5 ⟨rfl, hb5⟩
          go_wp2_with fail
          go_ret
          exact ⟨Fin.out _ HZ.out, below_trans (below_trans (below_trans hb2 hb3) hb4) hb5⟩
      · have HZ : Hid (Z = 0) := by have h := Hdef.out; simp [h46, h33, h63, h58, h59, h44, hw] at h; exact Lib.hid h
        clear Hdef
        clear hw
        go_wp2_with fail
        refine (cS _).mono ?_
        rintro e w2 ⟨rfl, hb2⟩
        go_wp2_with fail
        refine (cA _).mono ?_
        rintro e w3 ⟨rfl, hb3⟩
        go_wp2_with fail
        go_ret
        exact ⟨Fin.out _ HZ.out, below_trans hb2 hb3⟩
end Go.Proofs.YtheemefggkcfbaaDoor
namespace Go.Proofs.YtheemefggkcfbaaDoor
open Go Go.Lib Go.RowKit Go.Shelf
/-- The strength behind the i-th word. -/
def strAt (L : List (List UInt8)) (i : Nat) : Int := if i + 1 < L.length then strW (L.getD i []) (L.getD (i + 1) []) else 5
/-- The first k tokens of words. -/
def tokK (L : List (List UInt8)) (k : Nat) : List (List UInt8 × Int) := (List.range k).map fun i => (L.getD i [], strAt L i)
theorem tokK_zero (L : List (List UInt8)) : tokK L 0 = [] := rfl
theorem tokK_succ (L : List (List UInt8)) (k : Nat) : tokK L (k + 1) = tokK L k ++ [(L.getD k [], strAt L k)] := by
  unfold tokK; rw [List.range_succ, List.map_append]; rfl
theorem tokK_len (L : List (List UInt8)) (k : Nat) : (tokK L k).length = k := by simp [tokK]
def tokL (L : List (List UInt8)) : List (List UInt8 × Int) := tokK L L.length
theorem tokL_len (L : List (List UInt8)) : (tokL L).length = L.length := tokK_len L _
theorem tokL_fst (L : List (List UInt8)) : (tokL L).map (·.1) = L := by
  apply List.ext_getElem
  · simp [tokL_len]
  · intro i h1 h2
    simp [tokL, tokK, List.getD_eq_getElem?_getD, List.getElem?_eq_getElem h2]
theorem strAt_range (L : List (List UInt8)) (i : Nat) : 0 ≤ strAt L i ∧ strAt L i ≤ 5 := by
  unfold strAt
  split
  · exact strW_range _ _
  · omega
theorem tokL_range (L : List (List UInt8)) : ∀ x ∈ tokL L, 0 ≤ x.2 ∧ x.2 ≤ 5 := by
  intro x hx
  unfold tokL tokK at hx
  obtain ⟨i, _, rfl⟩ := List.mem_map.1 hx
  exact strAt_range L i
/-- What Split of token returns: the error, and the tokens. -/
def splitE (l : List UInt8) : Int := if (words l).all validC then (if 200 < (words l).length then 9 else 0) else 10
def splitL (l : List UInt8) : List (List UInt8 × Int) := if splitE l = 0 then tokL (words l) else []
def tcell (t : List UInt8 × Int) : List Value := [strV t.1, .int .i64 t.2]
def tcells (l : List (List UInt8 × Int)) : List Value := l.flatMap tcell
theorem tcells_nil : tcells [] = [] := rfl
theorem tcells_cons (t : List UInt8 × Int) (l : List (List UInt8 × Int)) : tcells (t :: l) = strV t.1 :: .int .i64 t.2 :: tcells l := rfl
theorem tcells_app (l m : List (List UInt8 × Int)) : tcells (l ++ m) = tcells l ++ tcells m := by simp [tcells]
theorem tcells_len (l : List (List UInt8 × Int)) : (tcells l).length = l.length * 2 := by
  induction l with
  | nil => rfl
  | cons t l ih => rw [tcells_cons, List.length_cons, List.length_cons, ih, List.length_cons]; omega
theorem tcells_get : ∀ (l : List (List UInt8 × Int)) (k : Nat) (h : k < l.length), (tcells l)[k * 2]? = some (strV l[k].1) ∧ (tcells l)[k * 2 + 1]? = some (.int .i64 l[k].2)
  | [], k, h => by simp at h
  | t :: l, 0, _ => ⟨rfl, rfl⟩
  | t :: l, k + 1, h => by
    have ih := tcells_get l k (by simpa using h)
    rw [tcells_cons]
    have e1 : (k + 1) * 2 = k * 2 + 1 + 1 := by omega
    have e2 : (k + 1) * 2 + 1 = k * 2 + 1 + 1 + 1 := by omega
    rw [e2, e1]
    simpa using ih
theorem words_mem_len : ∀ (t cur : List UInt8), ∀ x ∈ wordsGo cur t, x.length ≤ cur.length + t.length
  | [], cur, x, hx => by
    unfold wordsGo at hx
    by_cases h : cur = []
    · rw [if_pos h] at hx; cases hx
    · rw [if_neg h] at hx
      obtain rfl : x = cur := by simpa using hx
      simp
  | b :: t, cur, x, hx => by
    rw [wordsGo_cons] at hx
    by_cases hb : isSep b = true
    · rw [if_pos hb, List.mem_append] at hx
      rcases hx with hx | hx
      · by_cases h : cur = []
        · rw [if_pos h] at hx; cases hx
        · rw [if_neg h] at hx
          obtain rfl : x = cur := by simpa using hx
          simp
      · have := words_mem_len t [] x hx
        simp at this ⊢; omega
    · rw [if_neg hb] at hx
      have := words_mem_len t (cur ++ [b]) x hx
      simp at this ⊢; omega
theorem words_getD_len (l : List UInt8) (i : Nat) : ((words l).getD i []).length ≤ l.length := by
  by_cases h : i < (words l).length
  · have := words_mem_len l [] ((words l).getD i []) (by
      rw [List.getD_eq_getElem?_getD, List.getElem?_eq_getElem h]; exact List.getElem_mem h)
    simpa using this
  · rw [List.getD_eq_getElem?_getD, List.getElem?_eq_none (by omega)]; simp
theorem all_step (L : List (List UInt8)) (i : Nat) (hi : i < L.length) : (L.drop i).all validC = (validC (L.getD i []) && (L.drop (i + 1)).all validC) := by
  rw [List.drop_eq_getElem_cons hi, List.all_cons, List.getD_eq_getElem?_getD, List.getElem?_eq_getElem hi]
  rfl
/-- A slice of tokens that the call made, and an error. -/
def MadeT (B : Nat) (ts : List (List UInt8 × Int)) (err : Int) (w : World) (e : Ending) (w' : World) : Prop :=
  ∃ v, e = .returned (.tuple #[v, .int .i64 err]) ∧ w'.ownsRow B 30 2 v ts.length (tcells ts) ∧ Below B w w'
theorem own_stays {B : Nat} {E : TypeId} {s n : Nat} {v : Value} {xs : List Value} {w w' : World} (hown : w.ownsRow B E s v n xs) (hb : Below w.heap.size w w') : w'.ownsRow B E s v n xs := by
  refine ⟨hown.1, ?_⟩
  rcases hown.2 with h | ⟨g', c', cur', hv, hgb, hgg, rest⟩
  · exact Or.inl h
  · exact Or.inr ⟨g', c', cur', hv, hgb, by rw [hb.block _ (Array.getElem?_eq_some_iff.1 hgg).1]; exact hgg, rest⟩
/-- Rows of two types are two blocks. -/
theorem rows_apart {w : World} {B B' s s' n m : Nat} {E E' : TypeId} {v u : Value} {xs ys : List Value} (hE : E ≠ E') (h : w.ownsRow B E s v n xs) (h' : w.ownsRow B' E' s' u m ys) : u.ownBlock = none ∨ u.ownBlock ≠ v.ownBlock := by
  rcases h'.2 with ⟨rfl, _⟩ | ⟨g', c', cur', rfl, _, hg', _⟩
  · exact Or.inl rfl
  · right
    rcases h.2 with ⟨rfl, _⟩ | ⟨g, c, cur, rfl, _, hg, _⟩
    · simp [Value.ownBlock]
    · simp only [Value.ownBlock, ne_eq, Option.some.injEq]
      intro e; subst e
      rw [hg] at hg'
      simp at hg'
      exact hE hg'.2
theorem splitE_ok {l : List UInt8} (h : splitE l = 0) : (words l).all validC = true ∧ (words l).length ≤ 200 := by
  unfold splitE at h
  by_cases h1 : (words l).all validC = true
  · rw [if_pos h1] at h
    by_cases h2 : 200 < (words l).length
    · rw [if_pos h2] at h; omega
    · exact ⟨h1, by omega⟩
  · rw [if_neg h1] at h; omega
theorem splitL_len (l : List UInt8) : (splitL l).length ≤ 200 := by
  unfold splitL
  by_cases h : splitE l = 0
  · rw [if_pos h, tokL_len]; exact (splitE_ok h).2
  · rw [if_neg h]; simp
end Go.Proofs.YtheemefggkcfbaaDoor
