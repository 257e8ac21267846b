import Derived.Lib.TrimUEq
import Derived.Lib.SpaceUEq
import Derived.Lib.MapLaws
import Derived.Lib.ValidLaws
import Derived.Lib.FieldsP
import Derived.Lib.RuneCount
import Derived.Laws.RangeAny
namespace Go.Proofs.YtheemefggkcfbaaDoor
open Go Go.Lib

/-! ### runes of a string -/
def runesGo : Nat → List UInt8 → List Nat
  | 0, _ => []
  | f + 1, l => if l = [] then [] else (decodeL l).1 :: runesGo f (l.drop (decodeL l).2)
def runes (l : List UInt8) : List Nat := runesGo l.length l
theorem runesGo_nil : ∀ n, runesGo n [] = []
  | 0 => rfl
  | _ + 1 => by simp [runesGo]
theorem runesGo_fuel : ∀ (n m : Nat) (l : List UInt8), l.length ≤ n → l.length ≤ m → runesGo n l = runesGo m l
  | 0, m, l, hn, _ => by
    have : l = [] := List.eq_nil_of_length_eq_zero (by omega)
    subst this; rw [runesGo_nil, runesGo_nil]
  | n + 1, 0, l, _, hm => by
    have : l = [] := List.eq_nil_of_length_eq_zero (by omega)
    subst this; rw [runesGo_nil, runesGo_nil]
  | n + 1, m + 1, l, hn, hm => by
    unfold runesGo
    by_cases hne : l = []
    · simp [hne]
    · have hw := decodeL_width l
      have hl : 0 < l.length := List.length_pos_iff.2 hne
      rw [if_neg hne, if_neg hne, runesGo_fuel n m (l.drop (decodeL l).2) (by rw [List.length_drop]; omega) (by rw [List.length_drop]; omega)]
theorem runes_nil : runes [] = [] := rfl
theorem runes_step (l : List UInt8) (hne : l ≠ []) : runes l = (decodeL l).1 :: runes (l.drop (decodeL l).2) := by
  have hl : 0 < l.length := List.length_pos_iff.2 hne
  have hw := decodeL_width l
  obtain ⟨n, hn⟩ : ∃ n, l.length = n + 1 := ⟨l.length - 1, by omega⟩
  unfold runes
  rw [hn]
  show (if l = [] then [] else _) = _
  rw [if_neg hne, runesGo_fuel n (l.drop (decodeL l).2).length _ (by rw [List.length_drop]; omega) (Nat.le_refl _)]
theorem runes_ascii (b : UInt8) (t : List UInt8) (h : b.toNat < 128) : runes (b :: t) = b.toNat :: runes t := by
  rw [runes_step _ (by simp), decodeL_ascii b t h]; simp
theorem runes_length (l : List UInt8) : (runes l).length ≤ l.length := by
  have : ∀ n l, (runesGo n l).length ≤ n := by
    intro n
    induction n with
    | zero => intro l; simp [runesGo]
    | succ n ih => intro l; unfold runesGo; split <;> simp; exact ih _
  exact this _ _
def runesAt (s : ByteArray) (pos : Nat) : List Nat := runes (s.data.toList.drop pos)
theorem runesAt_step (s : ByteArray) (pos : Nat) (h : pos < s.size) : runesAt s pos = (Utf8.decode s pos).1 :: runesAt s (pos + (Utf8.decode s pos).2) := by
  unfold runesAt
  have hne : s.data.toList.drop pos ≠ [] := by
    intro h0
    have := congrArg List.length h0
    rw [List.length_drop, ← size_eq] at this
    simp at this; omega
  rw [runes_step _ hne, decodeL_drop, List.drop_drop]
theorem runesAt_end (s : ByteArray) (pos : Nat) (h : ¬ pos < s.size) : runesAt s pos = [] := by
  unfold runesAt
  rw [List.drop_eq_nil_of_le (by rw [← size_eq]; omega)]; rfl
theorem runesAt_zero (s : ByteArray) : runesAt s 0 = runes s.data.toList := rfl
theorem runesAt_len (s : ByteArray) (pos : Nat) : (runesAt s pos).length ≤ s.size - pos := by
  have := runes_length (s.data.toList.drop pos)
  rw [List.length_drop, ← size_eq] at this
  exact this
theorem runeCountFrom_runes (s : ByteArray) : ∀ (f pos : Nat), s.size ≤ pos + f → Lib.runeCountFrom s f pos = (runesAt s pos).length
  | 0, pos, h => by rw [runesAt_end s pos (by omega)]; rfl
  | f + 1, pos, h => by
    unfold Lib.runeCountFrom
    by_cases hp : pos < s.size
    · have := Lib.decode_width_pos s pos hp
      rw [if_pos hp, runesAt_step s pos hp, runeCountFrom_runes s f _ (by omega), List.length_cons]; omega
    · rw [if_neg hp, runesAt_end s pos hp]; rfl
theorem runeCount_runes (s : ByteArray) : Lib.runeCount s = (runes s.data.toList).length := runeCountFrom_runes s s.size 0 (by omega)

/-! ### the repertoire -/
def allL : List UInt8 := [32, 33, 34, 35, 36, 37, 38, 39, 40, 41, 42, 43, 44, 45, 46, 47, 48, 49, 50, 51, 52, 53, 54, 55, 56, 57, 58, 59, 60, 61, 62, 63, 64, 65, 66, 67, 68, 69, 70, 71, 72, 73, 74, 75, 76, 77, 78, 79, 80, 81, 82, 83, 84, 85, 86, 87, 88, 89, 90, 91, 92, 93, 94, 95, 96, 97, 98, 99, 100, 101, 102, 103, 104, 105, 106, 107, 108, 109, 110, 111, 112, 113, 114, 115, 116, 117, 118, 119, 120, 121, 122, 123, 124, 125, 126, 194, 161, 194, 162, 194, 163, 194, 164, 194, 165, 194, 166, 194, 167, 194, 169, 194, 171, 194, 174, 194, 176, 194, 183, 194, 187, 194, 189, 194, 191, 195, 128, 195, 129, 195, 130, 195, 131, 195, 132, 195, 133, 195, 134, 195, 135, 195, 136, 195, 137, 195, 138, 195, 139, 195, 140, 195, 141, 195, 142, 195, 143, 195, 145, 195, 146, 195, 147, 195, 148, 195, 149, 195, 150, 195, 152, 195, 153, 195, 154, 195, 155, 195, 156, 195, 159, 195, 160, 195, 161, 195, 162, 195, 163, 195, 164, 195, 165, 195, 166, 195, 167, 195, 168, 195, 169, 195, 170, 195, 171, 195, 172, 195, 173, 195, 174, 195, 175, 195, 177, 195, 178, 195, 179, 195, 180, 195, 181, 195, 182, 195, 184, 195, 185, 195, 186, 195, 187, 195, 188, 197, 146, 197, 147, 226, 128, 148, 226, 128, 152, 226, 128, 153, 226, 128, 156, 226, 128, 157, 226, 128, 162, 226, 128, 166, 226, 132, 162, 226, 153, 170]
def findR : List Nat → Int → Int → Int
  | [], _, _ => -1
  | x :: t, r, n => if (x : Int) = r then n else findR t r (n + 1)
theorem findR_ge : ∀ (l : List Nat) (r n : Int), 0 ≤ n → -1 ≤ findR l r n ∧ findR l r n ≤ n + l.length
  | [], r, n, h => by simp [findR]; omega
  | x :: t, r, n, h => by
    unfold findR
    split
    · simp; omega
    · have := findR_ge t r (n + 1) (by omega)
      simp; omega
/-- Index of charset. -/
def idxR (r : Int) : Int := if 32 ≤ r ∧ r ≤ 126 then r - 32 else findR (runes allL) r 0
/-- A character of the repertoire. -/
def inR (r : Nat) : Bool := decide (0 ≤ idxR r)
theorem inR_bad : inR 65533 = false := by decide +kernel
theorem inR_space : inR 32 = true := by decide +kernel
theorem inR_lf : inR 10 = false := by decide +kernel
/-- Valid of charset. -/
def validC (l : List UInt8) : Bool := (runes l).all inR
theorem validC_validD : ∀ (n : Nat) (l : List UInt8), l.length ≤ n → validC l = true → validD l = true
  | n, [], _, _ => rfl
  | 0, _ :: _, h, _ => by simp at h
  | n + 1, b :: t, hl, h => by
    have hne : b :: t ≠ [] := by simp
    have hw := decodeL_width (b :: t)
    unfold validC at h
    rw [runes_step _ hne] at h
    simp only [List.all_cons, Bool.and_eq_true] at h
    rw [validD_step _ hne, if_neg]
    · exact validC_validD n _ (by rw [List.length_drop]; simp at hl ⊢; omega) h.2
    · rintro ⟨h1, _⟩
      rw [h1, inR_bad] at h
      simp at h
theorem validD_false {l : List UInt8} (h : validD l = false) : validC l = false := by
  cases h' : validC l with
  | false => rfl
  | true => rw [validC_validD _ l (Nat.le_refl _) h'] at h; cases h
/-- Len of charset. -/
def lenC (l : List UInt8) : Int := if validC l = true then (runes l).length else -1

/-! ### words -/
def isSep (b : UInt8) : Bool := b == 32 || b == 10
def sepR (r : Nat) : Bool := r == 32 || r == 10
def wordsGo : List UInt8 → List UInt8 → List (List UInt8)
  | cur, [] => if cur = [] then [] else [cur]
  | cur, b :: t => if isSep b then (if cur = [] then [] else [cur]) ++ wordsGo [] t else wordsGo (cur ++ [b]) t
def words (l : List UInt8) : List (List UInt8) := wordsGo [] l
theorem wordsGo_cons (cur : List UInt8) (b : UInt8) (t : List UInt8) : wordsGo cur (b :: t) = if isSep b = true then (if cur = [] then [] else [cur]) ++ wordsGo [] t else wordsGo (cur ++ [b]) t := rfl
theorem wordsGo_pass : ∀ (xs cur t : List UInt8), (∀ b ∈ xs, isSep b = false) → wordsGo cur (xs ++ t) = wordsGo (cur ++ xs) t
  | [], cur, t, _ => by simp
  | b :: xs, cur, t, h => by
    have hb := h b (by simp)
    show wordsGo cur (b :: (xs ++ t)) = _
    rw [wordsGo_cons, hb, if_neg (by simp), wordsGo_pass xs (cur ++ [b]) t (fun c hc => h c (by simp [hc]))]
    simp
theorem isSep_high (b : UInt8) (h : 128 ≤ b.toNat) : isSep b = false := by
  unfold isSep
  cases h1 : b == 32
  · cases h2 : b == 10
    · rfl
    · rw [beq_iff_eq] at h2; subst h2; simp at h
  · rw [beq_iff_eq] at h1; subst h1; simp at h
/-- The bytes of a rune behind a high byte are high. -/
theorem rune_high (l : List UInt8) (h0 : 128 ≤ (l.getD 0 0).toNat) : ∀ b ∈ l.take (decodeL l).2, 128 ≤ b.toNat := by
  intro b hb
  obtain ⟨j, hj, e⟩ := List.getElem_of_mem hb
  have hc := decodeN_conts l.length (l.getD 0 0).toNat (l.getD 1 0).toNat (l.getD 2 0).toNat (l.getD 3 0).toNat
  rw [← decodeL_N] at hc
  obtain ⟨c2, c3, c4, c5⟩ := hc
  have hj' := hj
  rw [List.length_take] at hj'
  have e' : l.getD j 0 = b := by
    rw [← e, List.getElem_take]
    simp [List.getD, List.getElem?_eq_getElem (show j < l.length by omega)]
  subst e'
  match j, hj' with
  | 0, _ => exact h0
  | 1, hj' => have := (c2 (by omega)).1; omega
  | 2, hj' => have := (c3 (by omega)).1; omega
  | 3, hj' => have := (c4 (by omega)).1; omega
  | j + 4, hj' => omega
theorem getD_drop (l : List UInt8) (pos : Nat) (h : pos < l.length) : l.drop pos = l.getD pos 0 :: l.drop (pos + 1) := by
  rw [List.drop_eq_getElem_cons h]
  simp [List.getD, h]
theorem sepR_toNat (b : UInt8) : sepR b.toNat = isSep b := by
  unfold sepR isSep
  congr 1
  · exact Bool.eq_iff_iff.2 (by simp [← UInt8.toNat_inj])
  · exact Bool.eq_iff_iff.2 (by simp [← UInt8.toNat_inj])
theorem openPiece_snoc (l : List UInt8) (a pos k : Nat) (h : a ≤ pos) : pieceU l a pos ++ (l.drop pos).take k = pieceU l a (pos + k) := pieceU_grow l a pos k h
theorem spans_words (s : ByteArray) : ∀ (f pos : Nat) (st : Option Nat) (acc : List (Nat × Nat)), pos ≤ s.size → s.size ≤ pos + f → (∀ a, st = some a → a < pos) →
    (closeSpans s (spansFromP sepR s f pos st acc)).map (fun x => pieceU s.data.toList x.1 x.2) = acc.map (fun x => pieceU s.data.toList x.1 x.2) ++ wordsGo (openPiece s.data.toList st pos) (s.data.toList.drop pos) := by
  intro f
  induction f with
  | zero =>
    intro pos st acc hp hf hst
    obtain rfl : pos = s.size := by omega
    have hd : s.data.toList.drop s.size = [] := List.drop_eq_nil_of_le (by rw [← size_eq]; omega)
    rw [hd]
    cases st with
    | none => simp [spansFromP, closeSpans, openPiece, wordsGo]
    | some a =>
      have := hst a rfl
      have hne := pieceU_ne s.data.toList a s.size this (by rw [← size_eq]; omega)
      simp [spansFromP, closeSpans, openPiece, wordsGo, hne]
  | succ f ih =>
    intro pos st acc hp hf hst
    by_cases hlt : pos < s.size
    · have hl : pos < s.data.toList.length := by rw [← size_eq]; exact hlt
      have hdec := decodeL_drop s pos
      have hwd := Lib.decode_width_pos s pos hlt
      have hcons := getD_drop s.data.toList pos hl
      have hwn : pos + (Utf8.decode s pos).2 ≤ s.size := by
        have hne : s.data.toList.drop pos ≠ [] := by rw [hcons]; simp
        have := decodeL_le _ hne
        rw [hdec, List.length_drop, ← size_eq] at this
        omega
      unfold spansFromP
      rw [if_pos hlt]
      by_cases hb : (s.data.toList.getD pos 0).toNat < 128
      · have hd1 : Utf8.decode s pos = ((s.data.toList.getD pos 0).toNat, 1) := by
          rw [← hdec, hcons, decodeL_ascii _ _ hb]
        rw [hd1]
        simp only [sepR_toNat]
        rw [hcons]
        generalize hB : s.data.toList.getD pos 0 = B at *
        have htk : (s.data.toList.drop pos).take 1 = [B] := by rw [hcons]; rfl
        cases hs : isSep B
        · simp only [Bool.false_eq_true, if_false]
          have hw : ∀ cur, wordsGo cur (B :: s.data.toList.drop (pos + 1)) = wordsGo (cur ++ [B]) (s.data.toList.drop (pos + 1)) := by
            intro cur; conv => lhs; unfold wordsGo
            rw [hs]; simp
          rw [hw]
          cases st with
          | none =>
            simp only []
            rw [ih (pos + 1) (some pos) acc (by omega) (by omega) (fun a h => by cases h; omega)]
            congr 2
            simp only [openPiece, List.nil_append]
            unfold pieceU
            rw [show pos + 1 - pos = 1 by omega, htk]
          | some a =>
            simp only []
            have := hst a rfl
            rw [ih (pos + 1) (some a) acc (by omega) (by omega) (fun b h => by cases h; omega)]
            congr 2
            simp only [openPiece]
            rw [← pieceU_grow _ a pos 1 (by omega), htk]
        · simp only [if_true]
          have hw : ∀ cur, wordsGo cur (B :: s.data.toList.drop (pos + 1)) = (if cur = [] then [] else [cur]) ++ wordsGo [] (s.data.toList.drop (pos + 1)) := by
            intro cur; conv => lhs; unfold wordsGo
            rw [hs]; simp
          rw [hw]
          cases st with
          | none =>
            simp only []
            rw [ih (pos + 1) none acc (by omega) (by omega) (fun a h => by cases h)]
            simp [openPiece]
          | some a =>
            simp only []
            have := hst a rfl
            have hne := pieceU_ne s.data.toList a pos this (by omega)
            rw [ih (pos + 1) none _ (by omega) (by omega) (fun a h => by cases h)]
            simp [openPiece, hne]
      · have hb' : 128 ≤ (s.data.toList.getD pos 0).toNat := by omega
        have hr : sepR (Utf8.decode s pos).1 = false := by
          have hg : (s[pos]'hlt) = s.data.toList.getD pos 0 := by
            have h2 : pos < s.data.size := hlt
            show s.data[pos]'h2 = _
            rw [List.getD_eq_getElem?_getD, Array.getElem?_toList, Array.getElem?_eq_getElem h2]; rfl
          have := (decode_high s pos hlt (by rw [hg]; exact hb')).1
          unfold sepR
          simp; omega
        have hhigh := rune_high (s.data.toList.drop pos) (by rw [hcons]; exact hb')
        rw [hdec] at hhigh
        have hsplit : s.data.toList.drop pos = (s.data.toList.drop pos).take (Utf8.decode s pos).2 ++ s.data.toList.drop (pos + (Utf8.decode s pos).2) := by
          rw [← List.drop_drop, List.take_append_drop]
        have hpass : ∀ cur, wordsGo cur (s.data.toList.drop pos) = wordsGo (cur ++ (s.data.toList.drop pos).take (Utf8.decode s pos).2) (s.data.toList.drop (pos + (Utf8.decode s pos).2)) := by
          intro cur
          conv => lhs; rw [hsplit]
          exact wordsGo_pass _ _ _ (fun b hb => isSep_high b (hhigh b hb))
        rw [hr, hpass]
        simp only [Bool.false_eq_true, if_false]
        generalize (Utf8.decode s pos).2 = K at *
        cases st with
        | none =>
          simp only []
          rw [ih (pos + K) (some pos) acc (by omega) (by omega) (fun a h => by cases h; omega)]
          congr 2
          simp only [openPiece, List.nil_append]
          unfold pieceU
          rw [show pos + K - pos = K by omega]
        | some a =>
          simp only []
          have := hst a rfl
          rw [ih (pos + K) (some a) acc (by omega) (by omega) (fun b h => by cases h; omega)]
          congr 2
          simp only [openPiece]
          rw [← pieceU_grow _ a pos K (by omega)]
    · obtain rfl : pos = s.size := by omega
      have hd : s.data.toList.drop s.size = [] := List.drop_eq_nil_of_le (by rw [← size_eq]; omega)
      rw [hd, spansFromP_end _ _ _ _ _ _ hlt]
      cases st with
      | none => simp [closeSpans, openPiece, wordsGo]
      | some a =>
        have := hst a rfl
        have hne := pieceU_ne s.data.toList a s.size this (by rw [← size_eq]; omega)
        simp [closeSpans, openPiece, wordsGo, hne]
def strV (l : List UInt8) : Value := .string ⟨l.toArray⟩
theorem piece_extract (s : ByteArray) (a b : Nat) : s.extract a b = ⟨(pieceU s.data.toList a b).toArray⟩ := by
  apply ByteArray.ext
  apply Array.toList_inj.1
  rw [extract_data]
  rfl
theorem goFieldsP_words (s : ByteArray) : (goFieldsP sepR s).map Value.string = (words s.data.toList).map strV := by
  have h := spans_words s s.size 0 none [] (Nat.zero_le _) (by omega) (fun a h => by cases h)
  simp only [List.map_nil, List.nil_append, openPiece, List.drop_zero] at h
  unfold words
  rw [← h]
  unfold goFieldsP spansOfP
  rw [List.map_map, List.map_map]
  apply List.map_congr_left
  intro x _
  show Value.string (s.extract x.1 x.2) = Value.string _
  rw [piece_extract]
theorem goFieldsP_len (s : ByteArray) : (goFieldsP sepR s).length = (words s.data.toList).length := by
  have := congrArg List.length (goFieldsP_words s)
  simpa using this
end Go.Proofs.YtheemefggkcfbaaDoor
