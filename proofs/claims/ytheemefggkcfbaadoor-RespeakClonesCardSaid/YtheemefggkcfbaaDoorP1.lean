import Derived.Test.YtheemefggkcfbaaDoorT1
namespace Go.Proofs.YtheemefggkcfbaaDoor
open Go Go.Lib

/-! ### words of joined texts -/
theorem wordsGo_sep : ∀ (xs cur t : List UInt8) (b : UInt8), isSep b = true → wordsGo cur (xs ++ b :: t) = wordsGo cur xs ++ wordsGo [] t
  | [], cur, t, b, h => by
    rw [List.nil_append, wordsGo_cons, h, if_pos rfl]; rfl
  | x :: xs, cur, t, b, h => by
    rw [List.cons_append, wordsGo_cons, wordsGo_cons]
    by_cases hx : isSep x = true
    · rw [if_pos hx, if_pos hx, wordsGo_sep xs [] t b h, List.append_assoc]
    · rw [if_neg hx, if_neg hx, wordsGo_sep xs _ t b h]
theorem words_sep (xs t : List UInt8) (b : UInt8) (h : isSep b = true) : words (xs ++ b :: t) = words xs ++ words t := wordsGo_sep xs [] t b h
theorem words_nil : words [] = [] := rfl
theorem words_lead (t : List UInt8) (b : UInt8) (h : isSep b = true) : words (b :: t) = words t := by
  have := words_sep [] t b h
  simpa [words_nil] using this
/-- A word: not empty, and none of its bytes parts words. -/
def isW (x : List UInt8) : Prop := x ≠ [] ∧ ∀ b ∈ x, isSep b = false
theorem wordsGo_isW : ∀ (t cur : List UInt8), (∀ b ∈ cur, isSep b = false) → ∀ x ∈ wordsGo cur t, isW x
  | [], cur, hc, x, hx => by
    unfold wordsGo at hx
    by_cases h : cur = []
    · rw [if_pos h] at hx; cases hx
    · rw [if_neg h] at hx
      obtain rfl : x = cur := by simpa using hx
      exact ⟨h, hc⟩
  | b :: t, cur, hc, x, hx => by
    rw [wordsGo_cons] at hx
    by_cases hb : isSep b = true
    · rw [if_pos hb, List.mem_append] at hx
      rcases hx with hx | hx
      · by_cases h : cur = []
        · rw [if_pos h] at hx; cases hx
        · rw [if_neg h] at hx
          obtain rfl : x = cur := by simpa using hx
          exact ⟨h, hc⟩
      · exact wordsGo_isW t [] (fun b hb => by cases hb) x hx
    · rw [if_neg hb] at hx
      refine wordsGo_isW t (cur ++ [b]) (fun c hcm => ?_) x hx
      rw [List.mem_append] at hcm
      rcases hcm with hcm | hcm
      · exact hc c hcm
      · obtain rfl : c = b := by simpa using hcm
        simpa using hb
theorem words_isW (l : List UInt8) : ∀ x ∈ words l, isW x := wordsGo_isW l [] (fun b hb => by cases hb)
theorem words_one {x : List UInt8} (h : isW x) : words x = [x] := by
  have := wordsGo_pass x [] [] h.2
  rw [List.append_nil, List.nil_append] at this
  unfold words
  rw [this]
  show (if x = [] then [] else [x]) = _
  rw [if_neg h.1]
/-- Words with one space between any two. -/
def joinB : List (List UInt8) → List UInt8
  | [] => []
  | [x] => x
  | x :: y :: r => x ++ 32 :: joinB (y :: r)
theorem words_join : ∀ (L : List (List UInt8)), (∀ x ∈ L, isW x) → words (joinB L) = L
  | [], _ => rfl
  | [x], h => words_one (h x (by simp))
  | x :: y :: r, h => by
    show words (x ++ 32 :: joinB (y :: r)) = _
    rw [words_sep _ _ _ (by decide), words_one (h x (by simp)), words_join (y :: r) (fun z hz => h z (by simp [hz]))]
    rfl
theorem joinB_snoc : ∀ (L : List (List UInt8)) (x : List UInt8), L ≠ [] → joinB (L ++ [x]) = joinB L ++ 32 :: x
  | [], _, h => absurd rfl h
  | [y], x, _ => rfl
  | y :: z :: r, x, _ => by
    show y ++ 32 :: joinB (z :: r ++ [x]) = (y ++ 32 :: joinB (z :: r)) ++ 32 :: x
    rw [joinB_snoc (z :: r) x (by simp)]; simp
theorem words_spaces (a b : List UInt8) (feed : Bool) :
    words (10 :: (a ++ ((if feed then [32, 10, 10, 32] else [32, 32]) ++ (b ++ [32])))) = words (a ++ 32 :: b) := by
  have s32 : isSep 32 = true := by decide
  have s10 : isSep 10 = true := by decide
  have e : words (b ++ [32]) = words b := by
    rw [words_sep b [] 32 s32, words_nil, List.append_nil]
  rw [words_lead _ _ s10, words_sep a b 32 s32]
  cases feed
  · show words (a ++ 32 :: 32 :: (b ++ [32])) = _
    rw [words_sep _ _ _ s32, words_lead _ _ s32, e]
  · show words (a ++ 32 :: 10 :: 10 :: 32 :: (b ++ [32])) = _
    rw [words_sep _ _ _ s32, words_lead _ _ s10, words_lead _ _ s10, words_lead _ _ s32, e]

/-! ### runes of joined texts -/
theorem decodeN_less (n n' b0 b1 b2 b3 c1 c2 c3 : Nat) (hnn : n ≤ n') (hw : decodeN n b0 b1 b2 b3 ≠ (65533, 1))
    (e1 : 1 < n → c1 = b1) (e2 : 2 < n → c2 = b2) (e3 : 3 < n → c3 = b3) : decodeN n' b0 c1 c2 c3 = decodeN n b0 b1 b2 b3 := by
  by_cases h0 : b0 < 128
  · rw [decodeN_ascii _ _ _ _ _ h0, decodeN_ascii _ _ _ _ _ h0]
  · unfold decodeN at hw ⊢
    rw [if_neg h0] at hw ⊢
    rw [if_neg h0]
    by_cases hn : 1 < n
    · have E1 := e1 hn; subst E1
      by_cases hn2 : 2 < n
      · have E2 := e2 hn2; subst E2
        by_cases hn3 : 3 < n
        · have E3 := e3 hn3; subst E3
          simp only [hn, hn2, hn3, show 1 < n' by omega, show 2 < n' by omega, show 3 < n' by omega, true_and]
        · simp only [hn, hn2, hn3, show 1 < n' by omega, show 2 < n' by omega, true_and, false_and, and_false, if_false] at hw ⊢
          by_cases h5 : b0 / 8 = 30
          · exfalso
            rw [if_neg (by omega), if_neg (by omega)] at hw
            exact hw rfl
          · simp only [h5, false_and, if_false]
      · simp only [hn, hn2, show 1 < n' by omega, true_and, false_and, and_false, if_false] at hw ⊢
        by_cases h4 : b0 / 32 = 6 ∧ c1 / 64 = 2
        · rw [if_pos h4, if_pos h4]
        · rw [if_neg h4] at hw
          exact absurd rfl hw
    · simp only [hn, false_and, and_false, if_false] at hw
      exact absurd rfl hw
theorem getD_app (l t : List UInt8) (k : Nat) (h : k < l.length) : (l ++ t).getD k 0 = l.getD k 0 := by
  simp [List.getD, List.getElem?_append_left h]
theorem decodeL_app (l t : List UInt8) (hne : l ≠ []) (hv : decodeL l ≠ (65533, 1)) : decodeL (l ++ t) = decodeL l := by
  have hl : 0 < l.length := List.length_pos_iff.2 hne
  rw [decodeL_N] at hv
  rw [decodeL_N, decodeL_N, getD_app _ _ _ hl]
  refine decodeN_less _ _ _ _ _ _ _ _ _ (by rw [List.length_append]; omega) hv ?_ ?_ ?_
  all_goals (intro h; rw [getD_app _ _ _ h])
theorem runes_app : ∀ (n : Nat) (l t : List UInt8), l.length ≤ n → validD l = true → runes (l ++ t) = runes l ++ runes t
  | _, [], t, _, _ => by simp [runes_nil]
  | 0, _ :: _, _, h, _ => by simp at h
  | n + 1, b :: l, t, hl, h => by
    have hne : b :: l ≠ [] := by simp
    have hw := decodeL_width (b :: l)
    have hle := decodeL_le (b :: l) hne
    rw [validD_step _ hne] at h
    by_cases hb : (decodeL (b :: l)).1 = 65533 ∧ (decodeL (b :: l)).2 = 1
    · rw [if_pos hb] at h; cases h
    · rw [if_neg hb] at h
      have hd := decodeL_app (b :: l) t hne (fun e => hb (by rw [e]; exact ⟨rfl, rfl⟩))
      rw [runes_step _ hne, runes_step (b :: l ++ t) (by simp), hd, List.drop_append_of_le_length hle,
        runes_app n _ t (by rw [List.length_drop]; omega) h]
      rfl
theorem runes_word (l t : List UInt8) (h : validC l = true) : runes (l ++ 32 :: t) = runes l ++ 32 :: runes t := by
  rw [runes_app _ l _ (Nat.le_refl _) (validC_validD _ l (Nat.le_refl _) h), runes_ascii _ _ (by decide)]; rfl
/-- The number of characters of words with one space between any two. -/
def sumC : List (List UInt8) → Int
  | [] => 0
  | [x] => lenC x
  | x :: y :: r => lenC x + 1 + sumC (y :: r)
theorem valid_join : ∀ (L : List (List UInt8)), (∀ x ∈ L, validC x = true) → validC (joinB L) = true
  | [], _ => rfl
  | [x], h => h x (by simp)
  | x :: y :: r, h => by
    have ih := valid_join (y :: r) (fun z hz => h z (by simp [hz]))
    have hx := h x (by simp)
    have hr := runes_word x (joinB (y :: r)) hx
    show validC (x ++ 32 :: joinB (y :: r)) = true
    unfold validC at hx ih ⊢
    rw [hr, List.all_append, hx, List.all_cons, inR_space, ih]; rfl
theorem runes_join : ∀ (L : List (List UInt8)), (∀ x ∈ L, validC x = true) → ((runes (joinB L)).length : Int) = sumC L
  | [], _ => rfl
  | [x], h => by
    show _ = lenC x
    unfold lenC; rw [if_pos (h x (by simp))]; rfl
  | x :: y :: r, h => by
    have ih := runes_join (y :: r) (fun z hz => h z (by simp [hz]))
    have hx := h x (by simp)
    show ((runes (x ++ 32 :: joinB (y :: r))).length : Int) = lenC x + 1 + sumC (y :: r)
    rw [runes_word x _ hx, List.length_append, List.length_cons, ← ih]
    unfold lenC; rw [if_pos hx]
    omega
theorem len_join (L : List (List UInt8)) (h : ∀ x ∈ L, validC x = true) : lenC (joinB L) = sumC L := by
  unfold lenC; rw [if_pos (valid_join L h), runes_join L h]
/-- The sum of the words' own numbers of characters. -/
def sumL (L : List (List UInt8)) : Int := (L.map lenC).sum
theorem sumC_sum : ∀ (L : List (List UInt8)), L ≠ [] → sumC L = sumL L + ((L.length : Int) - 1)
  | [], h => absurd rfl h
  | [x], _ => by simp [sumC, sumL]
  | x :: y :: r, _ => by
    have ih := sumC_sum (y :: r) (by simp)
    show lenC x + 1 + sumC (y :: r) = _
    rw [ih]
    simp [sumL]; omega
/-- Len of token: the number of characters from a word on up to another. -/
def lenT (L : List (List UInt8)) (a b : Int) : Int := if a < 0 ∨ b < a ∨ (L.length : Int) < b then 0 else sumC ((L.drop a.toNat).take (b - a).toNat)
theorem sumC_app : ∀ (L M : List (List UInt8)), L ≠ [] → M ≠ [] → sumC (L ++ M) = sumC L + 1 + sumC M
  | [], _, h, _ => absurd rfl h
  | [x], M, _, h => by
    match M, h with
    | y :: r, _ => rfl
  | x :: y :: r, M, _, h => by
    have ih := sumC_app (y :: r) M (by simp) h
    show lenC x + 1 + sumC (y :: r ++ M) = lenC x + 1 + sumC (y :: r) + 1 + sumC M
    rw [ih]; omega
theorem lenT_adds (L : List (List UInt8)) (m : Int) (h1 : 1 ≤ m) (h2 : m < L.length) : lenT L 0 L.length = lenT L 0 m + 1 + lenT L m L.length := by
  unfold lenT
  rw [if_neg (by omega), if_neg (by omega), if_neg (by omega)]
  have e1 : (L.drop (0 : Int).toNat).take ((L.length : Int) - 0).toNat = L := by simp
  have e2 : (L.drop (0 : Int).toNat).take (m - 0).toNat = L.take m.toNat := by simp
  have e3 : (L.drop m.toNat).take ((L.length : Int) - m).toNat = L.drop m.toNat := by
    apply List.take_of_length_le; rw [List.length_drop]; omega
  rw [e1, e2, e3]
  conv => lhs; rw [← List.take_append_drop m.toNat L]
  apply sumC_app
  · intro h; have : min m.toNat L.length = 0 := by { rw [← List.length_take, h]; rfl }
    omega
  · intro h; have : L.length - m.toNat = 0 := by { rw [← List.length_drop, h]; rfl }
    omega
theorem lenT_all (L : List (List UInt8)) : lenT L 0 L.length = sumC L := by
  unfold lenT
  rw [if_neg (by omega)]; simp
end Go.Proofs.YtheemefggkcfbaaDoor
