import Derived.Test.YtheemefggkcfbaaDoorMC
import Derived.Shelf.Strings.FieldsAny
import Derived.Lib.Replace
import Derived.Test.YtheemefggkcfbaaDoorMD
import Derived.Test.YtheemefggkcfbaaDoorME
import Derived.Test.YtheemefggkcfbaaDoorMO
import Derived.IntWalk
namespace Go.Proofs.YtheemefggkcfbaaDoor
open Go Go.Lib Go.RowKit Go.Shelf
/-! ### the words of a text that was said, by Go's own Fields -/
def nlB (b : UInt8) : UInt8 := if b = 32 then 10 else b
def nl (l : List UInt8) : List UInt8 := l.map nlB
theorem nl_none {l : List UInt8} (h : (32 : UInt8) ∉ l) : nl l = l := by
  unfold nl
  conv => rhs; rw [← List.map_id l]
  apply List.map_congr_left
  intro b hb
  unfold nlB
  rw [if_neg (fun e => h (by rw [← e]; exact hb))]; rfl
theorem nl_some {pre t : List UInt8} (h : (32 : UInt8) ∉ pre) : nl (pre ++ 32 :: t) = pre ++ 10 :: nl t := by
  have := nl_none h
  unfold nl at *
  rw [List.map_append, List.map_cons, this]; rfl
theorem nl_len (l : List UInt8) : (nl l).length = l.length := by simp [nl]
theorem count_none {l : List UInt8} (h : (32 : UInt8) ∉ l) : count l [32] = 0 := by rw [count_one]; exact List.count_eq_zero.2 h
theorem count_some {pre t : List UInt8} (h : (32 : UInt8) ∉ pre) : count (pre ++ 32 :: t) [32] = count t [32] + 1 := by
  rw [count_one, count_one, List.count_append, List.count_eq_zero.2 h]; simp
theorem replaceK_nl : ∀ (k : Nat) (l : List UInt8), count l [32] = k → replaceK [32] [10] k l = nl l
  | 0, l, h => by
    rcases idx32 l with ⟨_, h2⟩ | ⟨pre, t, h1, h2, _⟩
    · rw [nl_none h2]; rfl
    · rw [h1, count_some h2] at h; omega
  | k + 1, l, h => by
    rcases idx32 l with ⟨_, h2⟩ | ⟨pre, t, h1, h2, h3⟩
    · rw [count_none h2] at h; omega
    · rw [h1, count_some h2] at h
      rw [replaceK_hit _ _ _ _ _ h3, h1, nl_some h2, ← replaceK_nl k t (by omega)]
      simp
theorem replace_nl (l : List UInt8) : replaceAll l [32] [10] = nl l := by
  unfold replaceAll replace
  rw [if_neg (by decide), ← replaceK_nl _ l rfl]
  congr 1
/-- Fields, its fuel out of sight. -/
def fD (cur l : List UInt8) : List (List UInt8) := fieldsGoD (l.length + 1) cur l
theorem fD_nil (cur : List UInt8) : fD cur [] = if cur = [] then [] else [cur] := fieldsGoD_nil _ _
theorem fD_step (cur l : List UInt8) (h : l ≠ []) : fD cur l = if isSpaceR (decodeL l).1 then (if cur = [] then [] else [cur]) ++ fD [] (l.drop (decodeL l).2) else fD (cur ++ l.take (decodeL l).2) (l.drop (decodeL l).2) := by
  have hw := decodeL_width l
  have hl : 0 < l.length := List.length_pos_iff.2 h
  unfold fD
  conv => lhs; unfold fieldsGoD
  rw [if_neg h]
  rw [fieldsGoD_fuel l.length ((l.drop (decodeL l).2).length + 1) _ _ (by rw [List.length_drop]; omega) (by omega), fieldsGoD_fuel l.length ((l.drop (decodeL l).2).length + 1) _ _ (by rw [List.length_drop]; omega) (by omega)]
def spL : List Nat := [9, 10, 11, 12, 13, 32, 133, 160, 5760, 8192, 8193, 8194, 8195, 8196, 8197, 8198, 8199, 8200, 8201, 8202, 8232, 8233, 8239, 8287, 12288]
theorem space_in (r : Nat) (h : isSpaceR r = true) : r ∈ spL := by
  unfold isSpaceR at h
  simp at h
  simp [spL]
  omega
theorem space_small : ∀ r ∈ spL, inCC r = false ∨ spR r = true := by decide +kernel
theorem space_out (r : Nat) (h1 : inCC r = true) (h2 : spR r = false) : isSpaceR r = false := by
  cases h : isSpaceR r with
  | false => rfl
  | true =>
    rcases space_small r (space_in r h) with h3 | h3
    · rw [h1] at h3; cases h3
    · rw [h2] at h3; cases h3
theorem wordE_zero {l : List UInt8} (h : wordE l = 0) : l ≠ [] ∧ validD l = true ∧ (runes l).any spR = false ∧ (runes l).all inCC = true := by
  unfold wordE at h
  split at h
  · cases h
  rename_i hn
  split at h
  · rename_i hc
    refine ⟨fun e => hn (Or.inl e), ?_, ?_, hc⟩
    · cases hv : validD l with
      | true => rfl
      | false => exact absurd (Or.inr (Or.inl hv)) hn
    · cases hv : (runes l).any spR with
      | false => rfl
      | true => exact absurd (Or.inr (Or.inr hv)) hn
  · cases h
theorem fD_word : ∀ (n : Nat) (x cur t : List UInt8), x.length ≤ n → validD x = true → (runes x).any spR = false → (runes x).all inCC = true → fD cur (x ++ t) = fD (cur ++ x) t
  | _, [], cur, t, _, _, _, _ => by simp
  | 0, _ :: _, _, _, h, _, _, _ => by simp at h
  | n + 1, b :: x, cur, t, hl, hv, hs, hc => by
    have hne : b :: x ≠ [] := by simp
    have hw := decodeL_width (b :: x)
    have hle := decodeL_le (b :: x) hne
    rw [validD_step _ hne] at hv
    by_cases hb : (decodeL (b :: x)).1 = 65533 ∧ (decodeL (b :: x)).2 = 1
    · rw [if_pos hb] at hv; cases hv
    rw [if_neg hb] at hv
    have hd := decodeL_app (b :: x) t hne (fun e => hb (by rw [e]; exact ⟨rfl, rfl⟩))
    rw [runes_step _ hne] at hs hc
    simp only [List.any_cons, Bool.or_eq_false_iff] at hs
    simp only [List.all_cons, Bool.and_eq_true] at hc
    rw [fD_step _ _ (by simp), hd, space_out _ hc.1 hs.1, if_neg (by simp), List.drop_append_of_le_length hle, List.take_append_of_le_length hle,
      fD_word n _ _ t (by rw [List.length_drop]; simp at hl ⊢; omega) hv hs.2 hc.2, List.append_assoc, List.take_append_drop]
theorem fD_line (cur t : List UInt8) : fD cur (10 :: t) = (if cur = [] then [] else [cur]) ++ fD [] t := by
  rw [fD_step _ _ (by simp), decodeL_ascii _ _ (by decide)]; rfl
theorem fD_words : ∀ (n : Nat) (l : List UInt8), l.length ≤ n → (∀ x ∈ spW l, wordE x = 0) → fD [] (nl l) = spW l := by
  intro n
  induction n with
  | zero =>
    intro l hl _
    obtain rfl : l = [] := List.length_eq_zero_iff.1 (by omega)
    rfl
  | succ n ih =>
    intro l hl h
    rcases idx32 l with ⟨_, h2⟩ | ⟨pre, t, h1, h2, _⟩
    · rw [nl_none h2]
      rw [spW_none h2] at h ⊢
      by_cases hn : l = []
      · subst hn; rfl
      · rw [if_neg hn] at h ⊢
        obtain ⟨_, a, b, c⟩ := wordE_zero (h l (by simp))
        have := fD_word _ l [] [] (Nat.le_refl _) a b c
        rw [List.append_nil, List.nil_append, fD_nil, if_neg hn] at this
        exact this
    · subst h1
      rw [spW_some h2] at h ⊢
      have ht := ih t (by simp at hl; omega) (fun x hx => h x (List.mem_append_right _ hx))
      rw [nl_some h2]
      by_cases hn : pre = []
      · subst hn
        rw [List.nil_append, fD_line, ht]
      · rw [if_neg hn] at h ⊢
        obtain ⟨_, a, b, c⟩ := wordE_zero (h pre (by simp))
        rw [fD_word _ pre [] _ (Nat.le_refl _) a b c, List.nil_append, fD_line, if_neg hn, ht]
theorem firstE_all : ∀ {L : List (List UInt8)}, firstE L = 0 → ∀ x ∈ L, wordE x = 0
  | [], _, x, hx => by cases hx
  | y :: L, h, x, hx => by
    unfold firstE at h
    split at h
    · rename_i h1
      rcases List.mem_cons.1 hx with rfl | hx
      · exact h1
      · exact firstE_all h x hx
    · rename_i h1; exact absurd h h1
/-- What a speaker takes up is what Fields finds where spaces are line feeds. -/
theorem fields_said {l : List UInt8} (h : spkE l = 0) : fieldsD (replaceAll l [32] [10]) = spkL l := by
  have e : spW l ≠ [] := fun e => by unfold spkE at h; rw [if_pos e] at h; cases h
  have e2 : firstE (spW l) = 0 := by unfold spkE at h; rw [if_neg e] at h; exact h
  rw [(spk_good e e2).2, replace_nl]
  exact fD_words _ l (Nat.le_refl _) (firstE_all e2)
end Go.Proofs.YtheemefggkcfbaaDoor
namespace Go.Proofs.YtheemefggkcfbaaDoor
open Go Go.Lib Go.RowKit Go.Shelf
/-! ### corrections, where no text holds a mark -/
abbrev mkT : List UInt8 := [45, 45]
theorem spGo_infix : ∀ (t cur x : List UInt8), x ∈ spGo cur t → ∃ a b, cur ++ t = a ++ (x ++ b)
  | [], cur, x, h => by
    unfold spGo at h
    split at h
    · cases h
    · obtain rfl : x = cur := by simpa using h
      exact ⟨[], [], by simp⟩
  | c :: t, cur, x, h => by
    rw [spGo_cons] at h
    split at h
    · rcases List.mem_append.1 h with h | h
      · split at h
        · cases h
        · obtain rfl : x = cur := by simpa using h
          exact ⟨[], c :: t, by simp⟩
      · obtain ⟨a, b, e⟩ := spGo_infix t [] x h
        refine ⟨cur ++ c :: a, b, ?_⟩
        rw [List.nil_append] at e
        rw [e]; simp
    · obtain ⟨a, b, e⟩ := spGo_infix t (cur ++ [c]) x h
      exact ⟨a, b, by rw [← e]; simp⟩
theorem contains_pre (b : List UInt8) : ∀ a : List UInt8, 0 ≤ index (a ++ (mkT ++ b)) mkT
  | [] => by simp [index, mkT]
  | c :: a => by
    have ih := contains_pre b a
    rw [List.cons_append]
    unfold index
    split
    · exact Int.le_refl _
    · split
      · rename_i h; have := beq_iff_eq.1 h; omega
      · omega
theorem spkL_mk {t : List UInt8} (h : Lib.contains t mkT = false) : ∀ x ∈ spkL t, x ≠ mkT := by
  intro x hx e
  unfold spkL at hx
  split at hx
  · obtain ⟨a, b, e2⟩ := spGo_infix t [] x hx
    rw [List.nil_append, e] at e2
    have := contains_pre b a
    rw [← e2] at this
    unfold Lib.contains at h
    rw [decide_eq_true this] at h
    cases h
  · cases hx
theorem newGo_mem (bk fx : Bool) : ∀ (L : List (List UInt8)) (k : Nat) (y : Spk), y ∈ newGo bk fx k L → y.1 ∈ L
  | [], _, y, h => by cases h
  | x :: t, k, y, h => by
    unfold newGo at h
    rcases List.mem_cons.1 h with rfl | h
    · simp
    · exact List.mem_cons_of_mem _ (newGo_mem bk fx t _ y h)
theorem newW_mem {bk fx : Bool} {L : List (List UInt8)} {y : Spk} (h : y ∈ newW bk fx L) : y.1 ∈ L := newGo_mem bk fx L 0 y h
theorem newGo_map (bk fx : Bool) : ∀ (L : List (List UInt8)) (k : Nat), (newGo bk fx k L).map (·.1) = L
  | [], _ => rfl
  | x :: t, k => by unfold newGo; rw [List.map_cons, newGo_map bk fx t]
theorem newW_map (bk fx : Bool) (L : List (List UInt8)) : (newW bk fx L).map (·.1) = L := newGo_map bk fx L 0
theorem newGo_fx (bk fx : Bool) : ∀ (L : List (List UInt8)) (k : Nat), ∀ y ∈ newGo bk fx k L, y.2.2 = fx
  | [], _, y, h => by cases h
  | x :: t, k, y, h => by
    unfold newGo at h
    rcases List.mem_cons.1 h with rfl | h
    · rfl
    · exact newGo_fx bk fx t _ y h
/-- The first open word is a mark exactly if the speaker says so. -/
structure FxS (S : Sp) : Prop where
  head : S.mark = true → ∃ R, S.opn = markS :: R ∧ ∀ y ∈ R, y.1 ≠ mkT
  rest : S.mark = false → ∀ y ∈ S.opn, y.1 ≠ mkT
theorem fx_new (n : Nat) : FxS (Sp.new n) := ⟨(fun e => by cases e), fun _ y hy => by cases hy⟩
theorem fx_app {S T : Sp} (h : FxS S) {bk fx : Bool} {L : List (List UInt8)} (hL : ∀ x ∈ L, x ≠ mkT) (hm : T.mark = S.mark) (ho : T.opn = S.opn ++ newW bk fx L) : FxS T := by
  constructor
  · intro e
    rw [hm] at e
    obtain ⟨R, e1, e2⟩ := h.head e
    refine ⟨R ++ newW bk fx L, by rw [ho, e1]; rfl, fun y hy => ?_⟩
    rcases List.mem_append.1 hy with hy | hy
    · exact e2 y hy
    · exact hL _ (newW_mem hy)
  · intro e y hy
    rw [hm] at e
    rw [ho] at hy
    rcases List.mem_append.1 hy with hy | hy
    · exact h.rest e y hy
    · exact hL _ (newW_mem hy)
theorem fx_say {S : Sp} (h : FxS S) {t : List UInt8} (ht : Lib.contains t mkT = false) : FxS (S.say t).1 := by
  by_cases h1 : spkE t = 0
  · by_cases h2 : 400 < S.opn.length + (spkL t).length
    · rw [say_full h1 h2]; exact h
    · rw [say_good h1 h2]; exact fx_app h (spkL_mk ht) rfl rfl
  · rw [say_bad h1]; exact h
theorem fx_take {S : Sp} (h : FxS S) : FxS S.take := by
  unfold Sp.take
  split
  · refine ⟨(fun e => by cases e), fun _ y hy => ?_⟩
    change y ∈ S.opn.drop 1 at hy
    cases hm : S.mark with
    | true =>
      obtain ⟨R, e1, e2⟩ := h.head hm
      rw [e1] at hy
      exact e2 y hy
    | false => exact h.rest hm y (List.mem_of_mem_drop hy)
  · exact h
theorem fx_cut {S : Sp} (h : FxS S) (k : Nat) (hk : k ≤ S.count) : (S.mark = true → ∃ R, S.opn.take (S.opn.length - k) = markS :: R ∧ ∀ y ∈ R, y.1 ≠ mkT) ∧ (S.mark = false → ∀ y ∈ S.opn.take (S.opn.length - k), y.1 ≠ mkT) := by
  constructor
  · intro e
    obtain ⟨R, e1, e2⟩ := h.head e
    unfold Sp.count at hk
    rw [if_pos e] at hk
    refine ⟨R.take (R.length - k), ?_, fun y hy => e2 y (List.mem_of_mem_take hy)⟩
    rw [e1] at hk ⊢
    simp only [List.length_cons] at hk ⊢
    rw [show R.length + 1 - k = (R.length - k) + 1 by omega, List.take_succ_cons]
  · intro e y hy
    exact h.rest e y (List.mem_of_mem_take hy)
theorem fx_head {S : Sp} (h : FxS S) (hm : S.mark = true) : S.opn.take (S.opn.length - S.count) = [markS] := by
  obtain ⟨R, e1, _⟩ := h.head hm
  unfold Sp.count
  rw [if_pos hm, e1]
  simp
theorem fx_none {S : Sp} (hm : S.mark = false) : S.opn.take (S.opn.length - S.count) = [] := by
  unfold Sp.count
  rw [if_neg (by rw [hm]; simp)]
  simp
/-- What a correction of words that were taken leaves. -/
theorem fx_out_opn {S : Sp} (h : FxS S) (k : Nat) (L : List (List UInt8)) : (S.fixOut k L).opn = markS :: newW false true L := by
  show (S.opn.take (S.opn.length - S.count) ++ (if S.mark = true then [] else [markS])) ++ newW false true L = _
  cases hm : S.mark with
  | true => rw [fx_head h hm, if_pos rfl]; rfl
  | false => rw [fx_none hm, if_neg (by simp)]; rfl
theorem fx_in {S : Sp} (h : FxS S) {k : Nat} {L : List (List UInt8)} (hk : k ≤ S.count) (hL : ∀ x ∈ L, x ≠ mkT) : FxS (S.fixIn k L) := by
  obtain ⟨h1, h2⟩ := fx_cut h k hk
  exact fx_app (S := { S with opn := S.opn.take (S.opn.length - k) }) ⟨h1, h2⟩ hL rfl rfl
theorem fx_out {S : Sp} (h : FxS S) {k : Nat} {L : List (List UInt8)} (hL : ∀ x ∈ L, x ≠ mkT) : FxS (S.fixOut k L) :=
  ⟨fun _ => ⟨_, fx_out_opn h k L, fun y hy => hL _ (newW_mem hy)⟩, fun e => by cases e⟩
theorem fx_cap {S T : Sp} (h : FxS S) (h2 : FxS T) : FxS (S.cap T).1 := by
  unfold Sp.cap
  split
  · exact h
  · exact h2
theorem fx_fix {S : Sp} (h : FxS S) (n : Int) {t : List UInt8} (ht : Lib.contains t mkT = false) : FxS (S.fix n t).1 := by
  unfold Sp.fix
  split
  · exact h
  split
  · exact h
  split
  · exact h
  split
  · rename_i hk; exact fx_cap h (fx_in h hk (spkL_mk ht))
  · exact fx_cap h (fx_out h (spkL_mk ht))
/-- A correction that is refused changes nothing. -/
theorem cap_none {S T : Sp} (h : (S.cap T).2 ≠ 0) : (S.cap T).1 = S := by
  unfold Sp.cap at *
  split
  · rfl
  · rename_i hn; rw [if_neg hn] at h; exact absurd rfl h
theorem fix_same {S : Sp} {n : Int} {t : List UInt8} (h : (S.fix n t).2 ≠ 0) : (S.fix n t).1 = S := by
  unfold Sp.fix at *
  split
  · rfl
  rename_i h1
  rw [if_neg h1] at h
  split
  · rfl
  rename_i h2
  rw [if_neg h2] at h
  split
  · rfl
  rename_i h3
  rw [if_neg h3] at h
  split
  · rename_i h4; rw [if_pos h4] at h; exact cap_none h
  · rename_i h4; rw [if_neg h4] at h; exact cap_none h
theorem cap_done {S T : Sp} (h : (S.cap T).2 = 0) : (S.cap T).1 = T := by
  unfold Sp.cap at *
  split
  · rename_i hn; rw [if_pos hn] at h; cases h
  · rfl
/-- A correction that is taken up. -/
theorem fix_done {S : Sp} {n : Int} {t : List UInt8} (h : (S.fix n t).2 = 0) : spkE t = 0 ∧ 1 ≤ n ∧ n ≤ 8 ∧ ((n.toNat ≤ S.count ∧ (S.fix n t).1 = S.fixIn n.toNat (spkL t)) ∨ (¬ n.toNat ≤ S.count ∧ (S.fix n t).1 = S.fixOut n.toNat (spkL t))) := by
  unfold Sp.fix at *
  split
  · rename_i h1; rw [if_pos h1] at h; cases h
  rename_i h1
  rw [if_neg h1] at h
  split
  · rename_i h2; rw [if_pos h2] at h; exact absurd h h2
  rename_i h2
  rw [if_neg h2] at h
  split
  · rename_i h3; rw [if_pos h3] at h; cases h
  rename_i h3
  rw [if_neg h3] at h
  refine ⟨Decidable.not_not.1 h2, by omega, by omega, ?_⟩
  split
  · rename_i h4; rw [if_pos h4] at h; exact Or.inl ⟨h4, cap_done h⟩
  · rename_i h4; rw [if_neg h4] at h; exact Or.inr ⟨h4, cap_done h⟩
/-- Behind it the open words end with the new ones. -/
theorem fix_ends {S : Sp} {n : Int} {t : List UInt8} (h : (S.fix n t).2 = 0) : ∃ X N, (S.fix n t).1.opn = X ++ N ∧ N.map (·.1) = spkL t := by
  obtain ⟨_, _, _, ⟨_, e⟩ | ⟨_, e⟩⟩ := fix_done h
  · rw [e]; exact ⟨_, _, rfl, newW_map _ _ _⟩
  · rw [e]; exact ⟨_, _, rfl, newW_map _ _ _⟩
theorem drop_app {α : Type} (X N : List α) (m : Nat) (h : m ≤ X.length) : (X ++ N).drop m = X.drop m ++ N := by
  rw [List.drop_append, show m - X.length = 0 by omega, List.drop_zero]
/-- The words that count end with the new ones. -/
theorem fix_said {S : Sp} (hS : FxS S) {n : Int} {t : List UInt8} (h : (S.fix n t).2 = 0) : ∃ X, (S.fix n t).1.all = X ++ spkL t := by
  obtain ⟨_, h1, _, ⟨hk, e⟩ | ⟨_, e⟩⟩ := fix_done h
  · rw [e]
    unfold Sp.all Sp.from
    have hkk := hk
    show ∃ X, (S.fixIn n.toNat (spkL t)).tkn ++ ((S.opn.take (S.opn.length - n.toNat) ++ newW (S.opn.getD (S.opn.length - n.toNat) default).2.1 (S.opn.getD (S.opn.length - n.toNat) default).2.2 (spkL t)).drop (if 0 = 0 ∧ S.mark = true then 1 else 0)).map (·.1) = _
    rw [drop_app _ _ _ (by
      split
      · rename_i hm
        obtain ⟨R, e1, _⟩ := (fx_cut hS _ hk).1 hm.2
        rw [e1]; simp
      · simp), List.map_append, newW_map]
    exact ⟨_, (List.append_assoc _ _ _).symm⟩
  · rw [e]
    unfold Sp.all Sp.from
    rw [fx_out_opn hS]
    show ∃ X, (S.fixOut n.toNat (spkL t)).tkn ++ ((markS :: newW false true (spkL t)).drop (if 0 = 0 ∧ true = true then 1 else 0)).map (·.1) = _
    rw [if_pos ⟨rfl, rfl⟩]
    show ∃ X, _ ++ (newW false true (spkL t)).map (·.1) = _
    rw [newW_map]
    exact ⟨_, rfl⟩
theorem getD_end {α : Type} (d : α) (X L : List α) (i : Nat) (_ : 1 ≤ i) (h2 : i ≤ L.length) : (X ++ L).getD ((X ++ L).length - i) d = L.getD (L.length - i) d := by
  rw [List.getD_eq_getElem?_getD, List.getD_eq_getElem?_getD, List.length_append, List.getElem?_append_right (by omega), show X.length + L.length - i - X.length = L.length - i by omega]
theorem getD_last8 (A : List (List UInt8)) (i : Nat) (h1 : 1 ≤ i) (h2 : i ≤ (last8 A).length) : (last8 A).getD ((last8 A).length - i) [] = A.getD (A.length - i) [] := by
  unfold last8 at *
  rw [List.getD_eq_getElem?_getD, List.getD_eq_getElem?_getD, List.getElem?_drop]
  rw [List.length_drop] at h2 ⊢
  rw [show A.length - 8 + (A.length - (A.length - 8) - i) = A.length - i by omega]
/-- (c): from the end, the words that count are the new ones. -/
theorem fix_same_end {S : Sp} (hS : FxS S) {n : Int} {t : List UInt8} (h : (S.fix n t).2 = 0) (i : Nat) (h1 : 1 ≤ i) (h2 : i ≤ (spkL t).length) (h3 : i ≤ (S.fix n t).1.said.length) :
    (S.fix n t).1.said.getD ((S.fix n t).1.said.length - i) [] = (spkL t).getD ((spkL t).length - i) [] := by
  obtain ⟨X, e⟩ := fix_said hS h
  unfold Sp.said at *
  rw [getD_last8 _ i h1 h3, e]
  exact getD_end [] X _ i h1 h2
/-- (b): so do the open words. -/
theorem fix_open_end {S : Sp} {n : Int} {t : List UInt8} (h : (S.fix n t).2 = 0) : (spkL t).length ≤ (S.fix n t).1.opn.length ∧ ∀ i, i < (spkL t).length → ((S.fix n t).1.opn.getD ((S.fix n t).1.opn.length - (spkL t).length + i) default).1 = (spkL t).getD i [] := by
  obtain ⟨X, N, e, e2⟩ := fix_ends h
  have hl : N.length = (spkL t).length := by rw [← e2, List.length_map]
  rw [e]
  refine ⟨by rw [List.length_append]; omega, fun i hi => ?_⟩
  rw [List.length_append, hl, show X.length + (spkL t).length - (spkL t).length + i = X.length + i by omega, List.getD_eq_getElem?_getD, List.getElem?_append_right (by omega), Nat.add_sub_cancel_left, ← e2,
    List.getD_eq_getElem?_getD, List.getElem?_map, List.getElem?_eq_getElem (by omega)]
  rfl
/-- (d), (e): what the correction does to the words ahead of them. -/
theorem fix_far {S : Sp} (hS : FxS S) {n : Int} {t : List UInt8} (h : (S.fix n t).2 = 0) (hn : (S.count : Int) < n) : (S.fix n t).1.opn = markS :: newW false true (spkL t) := by
  obtain ⟨_, h1, _, ⟨hk, e⟩ | ⟨_, e⟩⟩ := fix_done h
  · omega
  · rw [e]; exact fx_out_opn hS _ _
theorem fix_near {S : Sp} {n : Int} {t : List UInt8} (h : (S.fix n t).2 = 0) (hn : ¬ (S.count : Int) < n) : (S.fix n t).1.opn.length = S.opn.length - n.toNat + (spkL t).length ∧ n.toNat ≤ S.opn.length ∧
    (S.fix n t).1.opn.take ((S.fix n t).1.opn.length - (spkL t).length) = S.opn.take (S.opn.length - n.toNat) := by
  obtain ⟨_, h1, _, ⟨hk, e⟩ | ⟨hk, e⟩⟩ := fix_done h
  · have hc := count_le (S := S)
    have hl : (S.fixIn n.toNat (spkL t)).opn.length = S.opn.length - n.toNat + (spkL t).length := by rw [fixIn_len]; omega
    rw [e, hl]
    refine ⟨rfl, by omega, ?_⟩
    show (S.opn.take (S.opn.length - n.toNat) ++ newW _ _ (spkL t)).take _ = _
    rw [Nat.add_sub_cancel, List.take_append_of_le_length (by rw [List.length_take]; omega), List.take_of_length_le (by rw [List.length_take]; omega)]
  · omega
theorem fix_some {S : Sp} {n : Int} {t : List UInt8} (h : (S.fix n t).2 = 0) : 0 < (spkL t).length := by
  obtain ⟨h1, _⟩ := fix_done h
  have e : spW t ≠ [] := fun e => by unfold spkE at h1; rw [if_pos e] at h1; cases h1
  have e2 : firstE (spW t) = 0 := by unfold spkE at h1; rw [if_neg e] at h1; exact h1
  rw [(spk_good e e2).2]
  exact List.length_pos_iff.2 e
end Go.Proofs.YtheemefggkcfbaaDoor
namespace Go.Proofs.YtheemefggkcfbaaDoor
open Go Go.Lib Go.RowKit Go.Shelf
/-! ### Said: its row lies in a block of its own -/
theorem own_sl (a : Option Addr) (x y p q : Nat) : (Value.slice a x y).ownBlock = (Value.slice a p q).ownBlock := by cases a <;> rfl
theorem own_add (a : Option Addr) (j x y p q : Nat) : (Value.slice (a.map (·.add j)) x y).ownBlock = (Value.slice a p q).ownBlock := by
  cases a with
  | none => rfl
  | some d =>
    show some (d.add j).block = some d.block
    unfold Addr.add
    split <;> rfl
set_option maxHeartbeats 4000000 in
set_option maxRecDepth 100000 in
theorem said_new (w : World) (O : Nat → Prop) (b : Nat) (S : Sp) (h : SpAt w O b S) (hS : S.ok) :
    Calls Tryd.prog 43 #[ptr b] w fun e w' => ∃ v, e = .returned v ∧ RowR w' 1 v S.said.length (wcells S.said) ∧ (∀ k, v.ownBlock = some k → w.heap.size ≤ k) ∧ Below w.heap.size w w' := by
  obtain ⟨i0, hi, iz0, iz1, iz2⟩ := info_parts info9
  obtain ⟨vo, vt, h1, h2, h3, h4, h5, h6⟩ := h
  have c := clone9 w vt _ _ (RowR.of_own h3) (one_wcells _) (by have := hS.tkn; omega)
  obtain ⟨a, cp, rfl⟩ := own_len h2
  have hlen := hS.len
  have htk := hS.tkn
  have hmk := Lib.hid hS.mark
  have Ht := Lib.hid (@from_take S)
  have Hs := Lib.hid (@from_skip S)
  have He := Lib.hid (@from_end S)
  have HS : Hid (S.said = last8 (S.tkn ++ S.from 0)) := Lib.hid rfl
  have hget := Lib.hid (fun i h => scells_get S.opn i h)
  have HN : Hid (S.opn.length ≤ 400) := Lib.hid hlen
  go_enter Tryd.func43, Tryd.ntmps43
  obtain ⟨c0, c1, c2, c3, c4, c5, hf, hlt⟩ := blk_facts h1
  go_wp2_with fail
  refine c.mono ?_
  rintro e w1 ⟨v, rfl, ho, hb⟩
  clear c0 c1 c2 c3 c4 c5 hf hlt
  have h1' := blk_stay h1 hb
  obtain ⟨c0, c1, c2, c3, c4, c5, hf, hlt⟩ := blk_facts h1'
  go_wp2_with fail
  clear c0 c1 c2 c3 c4 c5 hf hlt h1' c
  go_loopw [3, 18] (fun v iv wx => ∃ (i : Nat) (d : List (List UInt8)), iv = .int .i64 i ∧ i ≤ S.opn.length ∧ d.length ≤ 8 + i ∧ wx.ownsRow w.heap.size 9 1 v d.length (wcells d) ∧ Below w.heap.size w wx ∧ Hid (d ++ S.from i = S.tkn ++ S.from 0)) (fun _ v _ => S.opn.length - (intOf v).toNat)
  case atStart => exact ⟨0, S.tkn, rfl, Nat.zero_le _, by omega, ho, hb, Lib.hid rfl⟩
  case round =>
    clear hb ho
    obtain ⟨i, d, rfl, hil, hd, ho, hb, HD⟩ := hrel
    have hsz := hb.size
    have h1' := blk_stay h1 hb
    have h2' := own_stays h2 hb
    obtain ⟨c0, c1, c2, c3, c4, c5, hf, hlt⟩ := blk_facts h1'
    by_cases hlt' : i < S.opn.length
    · have hz : (i : Int) < (S.opn.length : Int) := by omega
      obtain ⟨y0, y1, y2⟩ := hget.out i hlt'
      obtain ⟨g, cap, e, _, hgl⟩ := h2'.form (by omega)
      obtain ⟨rfl, rfl⟩ : a = some ⟨g, 0, none⟩ ∧ cp = cap := by injection e with e1 _ e3; exact ⟨e1, e3⟩
      have hnl : (scells S.opn).length = S.opn.length * 3 := scells_len _
      have x0 := (h2'.cellAt (i * 3) (by omega)).trans y0
      have x1 := (h2'.cellAt (i * 3 + 1) (by omega)).trans y1
      have x2 := (h2'.cellAt (i * 3 + 2) (by omega)).trans y2
      rw [strV_ba] at x0
      have Ht2 := Lib.hid (Ht.out i hlt')
      clear y0 y1 y2 e h1'
      generalize S.opn.getD i default = Y at *
      by_cases hi0 : i = 0
      · subst hi0
        cases hm : S.mark
        · rw [hm] at c2
          have HD2 := Lib.hid (HD.out.symm.trans (by rw [Ht2.out (by rw [hm]; simp)]))
          clear Ht Hs He Ht2 hget hm
          go_wp2_with (at_builtin; refine wpList_append_own _ rfl _ _ 42 rfl w.heap.size 9 i0 _ 1 16 Tryd.underlying42 hi iz0 iz1 iz2 rfl (by decide) _ _ _ rfl ((ho.alloc _).alloc _) ⟨wr.heap.size + 1, 0, none⟩ 1 1 [.string (ba Y.1)] rfl rfl ?c1 ?c2 ?c3 ?c4 ?c5 ?_)
          case c1 => exact cells_new _ _ _ (by simp)
          case c2 => simp [Value.oneCell']
          case c3 => unfold maxLen; omega
          case c4 => omega
          case c5 => simp; omega
          · intro v' w1 hown' hgrow _
            have R := wd_step (x := Y.1) ((ho.alloc _).alloc _) ((hb.alloc hsz _).alloc (by simp; omega) _) (by simp; omega) hown' hgrow
            clear hown' hgrow ho hb
            go_wp2_with fail
            go_roundw
            case rel => exact ⟨0 + 1, d ++ [Y.1], by go_num, by omega, by simp; omega, R.1, R.2, Lib.hid (by rw [List.append_assoc]; exact HD2.out.symm)⟩
            case measure => simp [intOf]; omega
        · rw [hm] at c2
          have HD2 := Lib.hid (HD.out.symm.trans (by rw [Hs.out 0 ⟨rfl, hm⟩]))
          clear Ht Hs He Ht2 hget hm
          go_wp2_with fail
          go_roundw
          case rel => exact ⟨0 + 1, d, by go_num, by omega, by omega, ho.alloc _, hb.alloc hsz _, Lib.hid HD2.out.symm⟩
          case measure => simp [intOf]; omega
      · have hiz : (0 : Int) < (i : Int) := by omega
        have HD2 := Lib.hid (HD.out.symm.trans (by rw [Ht2.out (by rintro ⟨e, _⟩; exact hi0 e)]))
        clear Ht Hs He Ht2 hget
        go_wp2_with (at_builtin; refine wpList_append_own _ rfl _ _ 42 rfl w.heap.size 9 i0 _ 1 16 Tryd.underlying42 hi iz0 iz1 iz2 rfl (by decide) _ _ _ rfl ((ho.alloc _).alloc _) ⟨wr.heap.size + 1, 0, none⟩ 1 1 [.string (ba Y.1)] rfl rfl ?c1 ?c2 ?c3 ?c4 ?c5 ?_)
        case c1 => exact cells_new _ _ _ (by simp)
        case c2 => simp [Value.oneCell']
        case c3 => unfold maxLen; omega
        case c4 => omega
        case c5 => simp; omega
        · intro v' w1 hown' hgrow _
          have R := wd_step (x := Y.1) ((ho.alloc _).alloc _) ((hb.alloc hsz _).alloc (by simp; omega) _) (by simp; omega) hown' hgrow
          clear hown' hgrow ho hb
          go_wp2_with fail
          go_roundw
          case rel => exact ⟨i + 1, d ++ [Y.1], by go_num, by omega, by simp; omega, R.1, R.2, Lib.hid (by rw [List.append_assoc]; exact HD2.out.symm)⟩
          case measure => simp [intOf]; omega
    · obtain rfl : i = S.opn.length := by omega
      have HD2 := Lib.hid (HD.out.symm.trans (by rw [He.out _ (Nat.le_refl _) hmk.out, List.append_nil]))
      have hz : ¬ (S.opn.length : Int) < (S.opn.length : Int) := by omega
      clear Ht Hs He hget
      rw [HD2.out] at HS
      clear HD2 HD
      obtain ⟨a', cp', rfl⟩ := own_len ho
      go_wp2_with fail
      · go_ret
        have hcp : cp' = (max ((d.length : Int) - 8) 0).toNat := by first | assumption | omega
        subst hcp
        exact ⟨_, rfl, by rw [HS.out]; exact last_row2 (RowR.of_own ho), fun k hk => own_from ho ((own_sl _ _ _ _ _).symm.trans hk), hb⟩
      · go_ret
        exact ⟨_, rfl, by rw [HS.out]; exact last_row (RowR.of_own ho), fun k hk => own_from ho ((own_add _ _ _ _ _ _).symm.trans hk), hb⟩
theorem said_own {w0 w : World} {b : Nat} {S : Sp} {F : Nat → Prop} (h : Ow w0 w b S F) (hS : S.ok) :
    Calls Tryd.prog 43 #[ptr b] w fun e w' => ∃ v, e = .returned v ∧ RowR w' 1 v S.said.length (wcells S.said) ∧ (∀ k, v.ownBlock = some k → also F w w' k) ∧ Ow w0 w' b S (also F w w') ∧ Below w.heap.size w w' := by
  have h' := h
  obtain ⟨O, hA, hO, hF, hb⟩ := h'
  refine (said_new w O b S hA hS).mono ?_
  rintro e w' ⟨v, rfl, ho, hn, hb'⟩
  exact ⟨v, rfl, ho, fun k hk => Or.inr ⟨hn k hk, ho.lt hk⟩, h.below hb', hb'⟩
end Go.Proofs.YtheemefggkcfbaaDoor
namespace Go.Proofs.YtheemefggkcfbaaDoor
open Go Go.Lib Go.RowKit Go.Shelf
/-- A speaker, and the box of an act. -/
def FxAt (w0 w : World) (b : Nat) (S : Sp) (B : Nat) (x : Array Value) : Prop := ∃ F, Ow w0 w b S F ∧ F B ∧ w.heap[B]? = some (.cells x 57 (0, 0))
section
variable {w0 w w' : World} {b B : Nat} {S : Sp} {x : Array Value}
theorem FxAt.dn (h : FxAt w0 w b S B x) : Below w0.heap.size w0 w := by obtain ⟨_, h1, _⟩ := h; exact h1.dn
theorem FxAt.box (h : FxAt w0 w b S B x) : w.heap[B]? = some (.cells x 57 (0, 0)) := by obtain ⟨_, _, _, h1⟩ := h; exact h1
theorem FxAt.below (h : FxAt w0 w b S B x) (hb : Below w.heap.size w w') : FxAt w0 w' b S B x := by
  obtain ⟨F, h1, h2, h3⟩ := h
  exact ⟨_, h1.below hb, Or.inl h2, blk_stay h3 hb⟩
theorem FxAt.sp (h : FxAt w0 w b S B x) {f : FuncId} {args : Array Value} {E : Ending} {S' : Sp} (c : ∀ F', Ow w0 w b S F' → Calls Tryd.prog f args w fun e w' => e = E ∧ Ow w0 w' b S' F' ∧ Keep F' w w') :
    Calls Tryd.prog f args w fun e w' => e = E ∧ FxAt w0 w' b S' B x := by
  obtain ⟨F, h1, h2, h3⟩ := h
  refine (c F h1).mono ?_
  rintro e w' ⟨rfl, hA, hK⟩
  exact ⟨rfl, F, hA, h2, hK.obj h3 h2⟩
/-- .. and what was open and said at some time, in rows of their own. -/
def FxB (w0 w : World) (b : Nat) (S : Sp) (B : Nat) (x : Array Value) (vb va : Value) (L : List Spk) (M : List (List UInt8)) : Prop :=
  ∃ F, Ow w0 w b S F ∧ F B ∧ w.heap[B]? = some (.cells x 57 (0, 0)) ∧ RowR w 3 vb L.length (scells L) ∧ (∀ k, vb.ownBlock = some k → F k) ∧ RowR w 1 va M.length (wcells M) ∧ (∀ k, va.ownBlock = some k → F k)
variable {vb va : Value} {L : List Spk} {M : List (List UInt8)}
theorem FxB.dn (h : FxB w0 w b S B x vb va L M) : Below w0.heap.size w0 w := by obtain ⟨_, h1, _⟩ := h; exact h1.dn
theorem FxB.box (h : FxB w0 w b S B x vb va L M) : w.heap[B]? = some (.cells x 57 (0, 0)) := by obtain ⟨_, _, _, h1, _⟩ := h; exact h1
theorem FxB.ow (h : FxB w0 w b S B x vb va L M) : ∃ F, Ow w0 w b S F := by obtain ⟨_, h1, _⟩ := h; exact ⟨_, h1⟩
theorem FxB.rows (h : FxB w0 w b S B x vb va L M) : RowR w 3 vb L.length (scells L) ∧ RowR w 1 va M.length (wcells M) := by obtain ⟨_, _, _, _, h1, _, h2, _⟩ := h; exact ⟨h1, h2⟩
theorem FxB.below (h : FxB w0 w b S B x vb va L M) (hb : Below w.heap.size w w') : FxB w0 w' b S B x vb va L M := by
  obtain ⟨F, h1, h2, h3, h4, h5, h6, h7⟩ := h
  exact ⟨_, h1.below hb, Or.inl h2, blk_stay h3 hb, h4.below hb, fun k hk => Or.inl (h5 k hk), h6.below hb, fun k hk => Or.inl (h7 k hk)⟩
theorem FxB.sp (h : FxB w0 w b S B x vb va L M) {f : FuncId} {args : Array Value} {E : Ending} {S' : Sp} (c : ∀ F', Ow w0 w b S F' → Calls Tryd.prog f args w fun e w' => e = E ∧ Ow w0 w' b S' F' ∧ Keep F' w w') :
    Calls Tryd.prog f args w fun e w' => e = E ∧ FxB w0 w' b S' B x vb va L M := by
  obtain ⟨F, h1, h2, h3, h4, h5, h6, h7⟩ := h
  refine (c F h1).mono ?_
  rintro e w' ⟨rfl, hA, hK⟩
  exact ⟨rfl, F, hA, h2, hK.obj h3 h2, hK.row h4 h5, h5, hK.row h6 h7, h7⟩
end
set_option maxHeartbeats 8000000 in
set_option maxRecDepth 100000 in
theorem law_fixes (k : Nat) (hk : k < 256) (a : Option Addr) (c : Nat) (L : List Ac) (xk : Nat) (xn : Int) (xt : ByteArray) (w : World) (hE : Env w) (hR : 0 < L.length → RowR w 3 (.slice a L.length c) L.length (acells L)) (hL : L.length ≤ 9223372036854775807) (hsz : ∀ x ∈ L, x.1 < 256 ∧ x.2.2.length ≤ 9223372036854775807) (_hxk : xk < 256) (hxt : xt.size ≤ 9223372036854775807) :
    Calls Tryd.prog 12 #[.int .u8 k, .slice a L.length c, .agg #[.int .u8 xk, .int .i64 xn, .string xt]] w fun e w' => e = .returned (.bool true) ∧ Below w.heap.size w w' := by
  go_enter Tryd.func12, Tryd.ntmps12
  go_wp2_with fail
  have hb0 := below1 (B := w.heap.size) (w := w) (.cells #[.int .u8 xk, .int .i64 xn, .string xt] 57) (Nat.le_refl _)
  have hB0 := heap_alloc_new w (.cells #[.int .u8 xk, .int .i64 xn, .string xt] 57)
  refine (awake_any _ (hE.below hb0)).mono ?_
  rintro e w1 ⟨rfl, hb1⟩
  have hb01 := hb0.trans (hb1.mono hb0.size)
  have hB1 := blk_stay hB0 hb1
  clear hb0 hB0 hb1
  go_wp2_with fail
  rw [show ((k : Int) % 17) = ((k % 17 : Nat) : Int) by omega]
  have hh : k % 17 ≤ 16 := by omega
  refine (new_ow (w0 := w) (k % 17) hh hb01).mono ?_
  rintro e w2 ⟨b, rfl, hN, hb2⟩
  have A : Hid (FxAt w w2 b (Sp.new (k % 17)) w.heap.size #[.int .u8 xk, .int .i64 xn, .string xt]) := Lib.hid ⟨_, hN, heap_lt hB1, blk_stay hB1 hb2⟩
  have HR := Lib.hid hR
  have HZ := Lib.hid hsz
  clear hN hb2 hb01 hB1 hR hsz
  generalize hBx : w.heap.size = B at *
  go_upto_block 0 with fail
  go_cut [9] (fun s9 wx => ∃ (S : Sp), Hid (S.ok ∧ FxS S) ∧ Hid (FxAt w wx b S B #[.int .u8 xk, .int .i64 xn, .string xt]))
  case first =>
    as_aux_lemma =>
      go_wp2_with fail
      go_loopw [9] (fun iv wx => ∃ (i : Nat) (S : Sp), iv = .int .i64 i ∧ i ≤ 16 ∧ i ≤ L.length ∧ Hid (S.ok ∧ FxS S) ∧ Hid (FxAt w wx b S B #[.int .u8 xk, .int .i64 xn, .string xt])) (fun v _ => 16 - (intOf v).toNat)
      case atStart => exact ⟨0, _, rfl, by omega, by omega, Lib.hid ⟨new_ok hh, fx_new _⟩, A⟩
      case round =>
        clear A
        obtain ⟨i, S, rfl, hi16, hiL, HS, A⟩ := hrel
        by_cases hlt : i < 16 ∧ i < L.length
        · have hz1 : (i : Int) < (L.length : Int) := by omega
          have hz2 : (i : Int) < 16 := by omega
          have R1 := (HR.out (by omega)).below (w' := wr) (by have := A.out.dn; rw [hBx] at this ⊢; exact this)
          rcases R1.2 with ⟨_, e⟩ | ⟨g, off, cap, e, hg, hc, _⟩
          · omega
          obtain ⟨rfl, rfl⟩ : a = some ⟨g, off, none⟩ ∧ c = cap := by injection e with e1 _ e3; exact ⟨e1, e3⟩
          obtain ⟨y0, y1, y2⟩ := RowR.atA R1 i hlt.2
          have hY := HZ.out (L.getD i default) (by rw [List.getD_eq_getElem?_getD, List.getElem?_eq_getElem hlt.2]; exact List.getElem_mem _)
          generalize L.getD i default = Y at *
          clear R1 e
          obtain ⟨yk, yn, yt⟩ := Y
          dsimp only at y0 y1 y2 hY
          rw [← Nat.add_assoc] at y1 y2
          have hyt : (ba yt).size ≤ 9223372036854775807 := hY.2
          go_wp2_with fail
          have hT : ((ba yt).extract 0 (min ((ba yt).size : Int) 100).toNat).size ≤ 65536 := Nat.le_trans (cut_size _ 100) (by decide)
          generalize (ba yt).extract 0 (min ((ba yt).size : Int) 100).toNat = T at *
          have A2 := Lib.hid (A.out.below (below1 (.cells #[.int .u8 yk, .int .i64 yn, .string (ba yt)] 57) (Nat.le_refl _)))
          clear A
          obtain ⟨m, hm⟩ := (hE.below A2.out.dn).maxl
          refine (Tryd.strings_Contains T ⟨#[45, 45]⟩ m _ (by omega) hm).mono ?_
          rintro e w4 ⟨rfl, rfl⟩
          cases hcn : Lib.contains T.data.toList (⟨#[45, 45]⟩ : ByteArray).data.toList with
          | true =>
            go_wp2_with fail
            go_roundw
            case rel => exact ⟨i + 1, S, by go_num, by omega, by omega, HS, A2⟩
            case measure => simp [intOf]; omega
          | false =>
            have hcn2 : Lib.contains T.data.toList mkT = false := hcn
            have HN := Lib.hid hcn2
            clear hcn hcn2 hm
            have hcase : (((yk : Int) % 4 = 0 ∨ (yk : Int) % 4 = 1) ∨ (yk : Int) % 4 = 2) ∨ (yk : Int) % 4 = 3 := by omega
            rcases hcase with ((hq | hq) | hq) | hq
            iterate 2
              · go_wp2_with fail
                refine (A2.out.sp (fun F hO => say_ow hO HS.out.1 T hT hE)).mono ?_
                rintro e w5 ⟨rfl, A3⟩
                have A3 := Lib.hid A3
                have HS3 := Lib.hid (And.intro (say_ok HS.out.1 T.data.toList) (fx_say HS.out.2 HN.out))
                clear A2 HS
                generalize (S.say T.data.toList).2 = Z
                generalize (S.say T.data.toList).1 = S2 at *
                go_wp2_with fail
                go_roundw
                case rel => exact ⟨i + 1, S2, by go_num, by omega, by omega, HS3, A3⟩
                case measure => simp [intOf]; omega
            · go_wp2_with fail
              refine (A2.out.sp (fun F hO => take_ow hO HS.out.1)).mono ?_
              rintro e w5 ⟨rfl, A3⟩
              have A3 := Lib.hid A3
              have HS3 := Lib.hid (And.intro (take_ok HS.out.1) (fx_take HS.out.2))
              clear A2 HS
              generalize spkV S.peek = Z
              generalize S.can = Z2
              generalize S.take = S2 at *
              go_wp2_with fail
              go_roundw
              case rel => exact ⟨i + 1, S2, by go_num, by omega, by omega, HS3, A3⟩
              case measure => simp [intOf]; omega
            · go_wp2_with fail
              refine (A2.out.sp (fun F hO => fix_ow hO HS.out.1 yn T hT hE)).mono ?_
              rintro e w5 ⟨rfl, A3⟩
              have A3 := Lib.hid A3
              have HS3 := Lib.hid (And.intro (fix_ok HS.out.1 yn T.data.toList) (fx_fix HS.out.2 yn HN.out))
              clear A2 HS
              generalize (S.fix yn T.data.toList).2 = Z
              generalize (S.fix yn T.data.toList).1 = S2 at *
              go_wp2_with fail
              go_roundw
              case rel => exact ⟨i + 1, S2, by go_num, by omega, by omega, HS3, A3⟩
              case measure => simp [intOf]; omega
        · have hcase : (¬ (i : Int) < (L.length : Int)) ∨ ((i : Int) < (L.length : Int) ∧ ¬ (i : Int) < 16) := by omega
          clear hlt HR HZ
          rcases hcase with hz1 | ⟨hz1, hz2⟩
          all_goals
            go_wp2_with fail
            go_meet
            exact ⟨S, HS, A⟩
  case rest =>
        clear A HR HZ
        obtain ⟨S, HS, A⟩ := hcut
        go_wp2_with fail
        obtain ⟨F, hO, hFB, hBox⟩ := A.out
        refine (open_ow hO HS.out.1).mono ?_
        rintro e w3 ⟨vb, rfl, hob, hO2, hb3⟩
        obtain ⟨ab, cb, rfl⟩ := own_len hob
        go_wp2_with fail
        refine (said_own hO2 HS.out.1).mono ?_
        rintro e w4 ⟨va, rfl, hra, hna, hO3, hb4⟩
        have X : Hid (FxB w w4 b S B #[.int .u8 xk, .int .i64 xn, .string xt] (.slice ab S.opn.length cb) va S.opn S.said) := Lib.hid ⟨_, hO3, Or.inl (Or.inl hFB), blk_stay (blk_stay hBox hb3) hb4, (RowR.of_own hob).below hb4, fun k hk => Or.inl (Or.inr ⟨own_from hob hk, RowR.own_lt hob hk⟩), hra, hna⟩
        clear A hO hFB hBox hob hO2 hb3 hra hna hO3 hb4
        go_upto_region 21 with fail
        go_cut [14] (fun s14 wx => s14 = .bool S.mark ∧ wx = w4)
        case first =>
          as_aux_lemma =>
            have hz0 := X.out.rows.1
            have HX := Lib.hid (And.intro HS.out.2.head HS.out.2.rest)
            cases hm : S.mark with
            | true =>
              obtain ⟨R, e1, _⟩ := HS.out.2.head hm
              have hl0 : 0 < S.opn.length := by rw [e1]; simp
              have hl1 : (0 : Int) < (S.opn.length : Int) := by omega
              rcases hz0.2 with ⟨_, e⟩ | ⟨g, off, cap, e, hg, hc, _⟩
              · omega
              obtain ⟨rfl, rfl⟩ : ab = some ⟨g, off, none⟩ ∧ cb = cap := by injection e with e1 _ e3; exact ⟨e1, e3⟩
              obtain ⟨y0, y1, y2⟩ := RowR.at3 hz0 0 hl0
              have hq : S.opn.getD 0 default = markS := by rw [e1]; rfl
              rw [hq] at y0 y1 y2
              have q1 : (ba markS.1).toList = [45, 45] := by rw [toList_data]; rfl
              rw [show markS.2.2 = true from rfl] at y2
              rw [Nat.zero_mul, Nat.add_zero] at y0
              rw [Nat.zero_mul, Nat.zero_add] at y1 y2
              clear hz0 HX e e1 hq
              go_wp2_with fail
              go_meet
              exact ⟨by rw [hm], rfl⟩
            | false =>
              have hne := HS.out.2.rest hm
              by_cases hl0 : 0 < S.opn.length
              · have hl1 : (0 : Int) < (S.opn.length : Int) := by omega
                rcases hz0.2 with ⟨_, e⟩ | ⟨g, off, cap, e, hg, hc, _⟩
                · omega
                obtain ⟨rfl, rfl⟩ : ab = some ⟨g, off, none⟩ ∧ cb = cap := by injection e with e1 _ e3; exact ⟨e1, e3⟩
                obtain ⟨y0, y1, y2⟩ := RowR.at3 hz0 0 hl0
                have hY := hne (S.opn.getD 0 default) (by rw [List.getD_eq_getElem?_getD, List.getElem?_eq_getElem hl0]; exact List.getElem_mem _)
                generalize S.opn.getD 0 default = Y at *
                have q1 : ¬ ((ba Y.1).toList = [45, 45]) := by rw [toList_data]; exact hY
                rw [Nat.zero_mul, Nat.add_zero] at y0
                rw [Nat.zero_mul, Nat.zero_add] at y1 y2
                clear hz0 HX e hne hY
                go_wp2_with fail
                go_meet
                exact ⟨by rw [hm], rfl⟩
              · have hl1 : ¬ ((0 : Int) < (S.opn.length : Int)) := by omega
                clear hz0 HX hne
                go_wp2_with fail
                go_meet
                exact ⟨by rw [hm], rfl⟩
        case rest =>
          obtain ⟨rfl, rfl⟩ := hcut
          obtain ⟨x0, x1, x2, xf, xl⟩ := blk3 X.out.box
          go_wp2_with fail
          have hT : (xt.extract 0 (min (xt.size : Int) 100).toNat).size ≤ 65536 := Nat.le_trans (cut_size _ 100) (by decide)
          generalize xt.extract 0 (min (xt.size : Int) 100).toNat = T at *
          obtain ⟨m, hm⟩ := (hE.below X.out.dn).maxl
          refine (Tryd.strings_Contains T ⟨#[45, 45]⟩ m _ (by omega) hm).mono ?_
          rintro e w5 ⟨rfl, rfl⟩
          cases hcn : Lib.contains T.data.toList (⟨#[45, 45]⟩ : ByteArray).data.toList with
          | true =>
            have D := Lib.hid X.out.dn
            clear X
            go_wp2_with fail
            go_ret
            rw [← hBx]
            exact ⟨rfl, D.out⟩
          | false =>
            clear hcn hm
            go_wp2_with fail
            refine (X.out.sp (fun F hO => fix_ow hO HS.out.1 xn T hT hE)).mono ?_
            rintro e w6 ⟨rfl, X2⟩
            have X2 := Lib.hid X2
            clear X x0 x1 x2 xf xl
            by_cases hz : (S.fix xn T.data.toList).2 = 0
            · obtain ⟨he0, hn1, hn8, _⟩ := fix_done hz
              have HF := Lib.hid (And.intro hz HS.out.2)
              have hS2 := fix_ok HS.out.1 xn T.data.toList
              rw [hz]
              go_wp2_with fail
              refine (spk_any T w6 hT (hE.below X2.out.dn)).mono ?_
              rintro e w7 ⟨vL, rfl, hoL, hbL⟩
              rw [he0]
              obtain ⟨aL, cL, rfl⟩ := own_len hoL
              have X3 := Lib.hid (X2.out.below hbL)
              have R7 := Lib.hid (RowR.of_own hoL)
              clear X2 hoL hbL he0 hz
              obtain ⟨_, hO⟩ := X3.out.ow
              go_wp2_with fail
              refine (said_ow hO hS2).mono ?_
              rintro e w8 ⟨vs, rfl, hrs, hO8, hb8⟩
              obtain ⟨as8, cs8, rfl⟩ := hrs.len
              have X4 := Lib.hid (X3.out.below hb8)
              have R8 := Lib.hid (R7.out.below hb8)
              have Q8 := Lib.hid hrs
              clear X3 R7 hrs hb8 hO
              go_wp2_with fail
              refine (open_ow hO8 hS2).mono ?_
              rintro e w9 ⟨vo, rfl, hoo, hO9, hb9⟩
              obtain ⟨ao, co, rfl⟩ := own_len hoo
              have X5 := Lib.hid (X4.out.below hb9)
              have R9 := Lib.hid (R8.out.below hb9)
              have Q9 := Lib.hid (Q8.out.below hb9)
              have P9 := Lib.hid (RowR.of_own hoo)
              clear X4 R8 Q8 hoo hb9 hO8 hO9
              have hlen := (fix_open_end HF.out.1).1
              have hQl := spkL_len hT
              have hzl : ¬ ((((S.fix xn T.data.toList).1.opn.length : Nat) : Int) < ((spkL T.data.toList).length : Int)) := by omega
              have HG := Lib.hid (And.intro (fix_same_end HF.out.2 HF.out.1) (fix_open_end HF.out.1).2)
              generalize hS2e : (S.fix xn T.data.toList).1 = S2 at *
              generalize hQe : spkL T.data.toList = Q at *
              go_upto_block 3 with fail
              have hzd : decide (S2.opn.length < Q.length) = false := by simp; omega
              rw [hzd]
              clear hzd hzl
              go_cut [20] (fun s20 wx => s20 = s20 ∧ Below w9.heap.size w9 wx)
              case first =>
                as_aux_lemma =>
                  go_wp2_with fail
                  go_loopw [20] (fun iv wx => ∃ j : Nat, iv = .int .i64 j ∧ 1 ≤ j ∧ j ≤ Q.length + 1 ∧ Below w9.heap.size w9 wx) (fun v _ => Q.length + 1 - (intOf v).toNat)
                  case atStart => exact ⟨1, rfl, by omega, by omega, Below.refl _ _⟩
                  case round =>
                    obtain ⟨j, rfl, hj1, hj2, hb⟩ := hrel
                    by_cases h1 : j ≤ Q.length
                    · have hz1 : (j : Int) ≤ (Q.length : Int) := by omega
                      by_cases h2 : j ≤ S2.said.length
                      · have hz2 : (j : Int) ≤ (S2.said.length : Int) := by omega
                        have RQ := R9.out.below hb
                        have RS := Q9.out.below hb
                        rcases RQ.2 with ⟨_, e⟩ | ⟨g, off, cap, e, hg, hc, _⟩
                        · omega
                        rcases RS.2 with ⟨_, e'⟩ | ⟨g', off', cap', e', hg', hc', _⟩
                        · omega
                        obtain ⟨rfl, rfl⟩ : aL = some ⟨g, off, none⟩ ∧ cL = cap := by injection e with e1 _ e3; exact ⟨e1, e3⟩
                        obtain ⟨rfl, rfl⟩ : as8 = some ⟨g', off', none⟩ ∧ cs8 = cap' := by injection e' with e1 _ e3; exact ⟨e1, e3⟩
                        have y1 := RowR.at1 RQ (Q.length - j) (by omega)
                        have y2 := RowR.at1 RS (S2.said.length - j) (by omega)
                        rw [HG.out.1 j hj1 h1 h2] at y2
                        generalize Q.getD (Q.length - j) [] = Y at *
                        have t1 : ((Q.length : Int) - (j : Int)).toNat = Q.length - j := by omega
                        have t2 : ((S2.said.length : Int) - (j : Int)).toNat = S2.said.length - j := by omega
                        have z1 : 0 ≤ (Q.length : Int) - (j : Int) := by omega
                        have z2 : 0 ≤ (S2.said.length : Int) - (j : Int) := by omega
                        have z3 : (Q.length : Int) - (j : Int) < (Q.length : Int) := by omega
                        have z4 : (S2.said.length : Int) - (j : Int) < (S2.said.length : Int) := by omega
                        have z5 : S2.said.length ≤ 8 := last8_len S2.all
                        clear RQ RS e e'
                        have hw1 : IntKind.i64.wrap ((S2.said.length : Int) - (j : Int)) = (S2.said.length : Int) - (j : Int) := IntWalk.i64_in _ (by have := last8_len S2.all; have h3 : S2.said.length ≤ 8 := this; omega)
                        have hw2 : IntKind.i64.wrap ((Q.length : Int) - (j : Int)) = (Q.length : Int) - (j : Int) := IntWalk.i64_in _ (by have := hS2.len; omega)
                        go_wp2_with fail
                        go_quiet (fail)
                        go_wp2_with fail
                        go_roundw
                        case rel => exact ⟨j + 1, by go_num, Nat.le_add_left _ _, Nat.succ_le_succ h1, below_dn hb _⟩
                        case measure => simp [intOf]; omega
                      · have hz2 : ¬ (j : Int) ≤ (S2.said.length : Int) := by omega
                        go_wp2_with fail
                        go_meet
                        exact ⟨trivial, hb⟩
                    · have hz1 : ¬ (j : Int) ≤ (Q.length : Int) := by omega
                      go_wp2_with fail
                      go_meet
                      exact ⟨trivial, hb⟩
              case rest =>
                obtain ⟨_, hbw⟩ := hcut
                have X6 := Lib.hid (X5.out.below hbw)
                have RL := Lib.hid (R9.out.below hbw)
                have RP := Lib.hid (P9.out.below hbw)
                clear X5 R9 Q9 P9 hbw
                go_wp2_with fail
                go_loopw [169] (fun iv wx => ∃ j : Nat, iv = .int .i64 j ∧ j ≤ Q.length ∧ Below wc.heap.size wc wx) (fun v _ => Q.length - (intOf v).toNat)
                case atStart => exact ⟨0, rfl, by omega, Below.refl _ _⟩
                case round =>
                  obtain ⟨j, rfl, hj2, hb⟩ := hrel
                  by_cases h1 : j < Q.length
                  · have hz1 : (j : Int) < (Q.length : Int) := by omega
                    have RQ := RL.out.below hb
                    have RS := RP.out.below hb
                    rcases RQ.2 with ⟨_, e⟩ | ⟨g, off, cap, e, hg, hc, _⟩
                    · omega
                    rcases RS.2 with ⟨_, e'⟩ | ⟨g', off', cap', e', hg', hc', _⟩
                    · omega
                    obtain ⟨rfl, rfl⟩ : aL = some ⟨g, off, none⟩ ∧ cL = cap := by injection e with e1 _ e3; exact ⟨e1, e3⟩
                    obtain ⟨rfl, rfl⟩ : ao = some ⟨g', off', none⟩ ∧ co = cap' := by injection e' with e1 _ e3; exact ⟨e1, e3⟩
                    have y1 := RowR.at1 RQ j h1
                    obtain ⟨y2, _, _⟩ := RowR.at3 RS (S2.opn.length - Q.length + j) (by omega)
                    rw [HG.out.2 j h1] at y2
                    generalize Q.getD j [] = Y at *
                    have t2 : ((S2.opn.length : Int) - (Q.length : Int) + (j : Int)).toNat = S2.opn.length - Q.length + j := by omega
                    have z2 : 0 ≤ (S2.opn.length : Int) - (Q.length : Int) + (j : Int) := by omega
                    have z4 : (S2.opn.length : Int) - (Q.length : Int) + (j : Int) < (S2.opn.length : Int) := by omega
                    have z5 := hS2.len
                    clear RQ RS e e'
                    have hw1 : IntKind.i64.wrap ((S2.opn.length : Int) - (Q.length : Int)) = (S2.opn.length : Int) - (Q.length : Int) := IntWalk.i64_in _ (by have := hS2.len; omega)
                    have hw2 : IntKind.i64.wrap ((S2.opn.length : Int) - (Q.length : Int) + (j : Int)) = (S2.opn.length : Int) - (Q.length : Int) + (j : Int) := IntWalk.i64_in _ (by have := hS2.len; omega)
                    go_wp2_with fail
                    go_quiet (fail)
                    go_wp2_with fail
                    go_roundw
                    case rel => exact ⟨j + 1, by go_num, by omega, below_dn hb _⟩
                    case measure => simp [intOf]; omega
                  · obtain rfl : j = Q.length := by omega
                    have hz1 : ¬ (Q.length : Int) < (Q.length : Int) := by omega
                    have X7 := Lib.hid (X6.out.below hb)
                    have RL2 := Lib.hid (RL.out.below hb)
                    have RP2 := Lib.hid (RP.out.below hb)
                    clear X6 RL RP hb
                    have hSl := HS.out.1.len
                    go_upto_if 191 with fail
                    obtain ⟨Mk, hMk⟩ : ∃ Mk, S.mark = Mk := ⟨_, rfl⟩
                    rw [hMk]
                    have HM := Lib.hid hMk
                    clear hMk
                    go_cut [22] (fun s22 wx => s22 = .int .i64 (S.count : Int) ∧ wx = wr)
                    case first =>
                      as_aux_lemma =>
                        cases Mk with
                        | true =>
                          obtain ⟨R, e1, _⟩ := HF.out.2.head HM.out
                          have hcnt : (S.count : Int) = (S.opn.length : Int) - 1 := by
                            unfold Sp.count; rw [if_pos HM.out, e1]; simp
                          have HC := Lib.hid hcnt
                          clear e1 hcnt
                          go_wp2_with fail
                          go_meet
                          exact ⟨by rw [HC.out], rfl⟩
                        | false =>
                          have hcnt : (S.count : Int) = (S.opn.length : Int) := by
                            unfold Sp.count; rw [if_neg (by rw [HM.out]; simp)]
                          have HC := Lib.hid hcnt
                          clear hcnt
                          go_wp2_with fail
                          go_meet
                          exact ⟨by rw [HC.out], rfl⟩
                    case rest =>
                      obtain ⟨rfl, rfl⟩ := hcut
                      have hbox := X7.out.box
                      obtain ⟨x0, x1, x2, xf, xl⟩ := blk3 hbox
                      have D := Lib.hid X7.out.dn
                      by_cases hnc : (S.count : Int) < xn
                      · have hfar := fix_far HF.out.2 HF.out.1 hnc
                        rw [hS2e, hQe] at hfar
                        have hl2 : S2.opn.length = Q.length + 1 := by rw [hfar, List.length_cons, newW_len]
                        have hQ0 : 0 < Q.length := by have := fix_some HF.out.1; rw [hQe] at this; exact this
                        have g0 : S2.opn.getD 0 default = markS := by rw [hfar]; rfl
                        have g1 : (S2.opn.getD 1 default).2.2 = true := by
                          rw [hfar]
                          have hn0 : 0 < (newW false true Q).length := by rw [newW_len]; exact hQ0
                          rw [List.getD_eq_getElem?_getD, List.getElem?_cons_succ, List.getElem?_eq_getElem hn0]
                          exact newGo_fx false true Q 0 _ (List.getElem_mem _)
                        have RS := RP2.out
                        rcases RS.2 with ⟨_, e'⟩ | ⟨g', off', cap', e', hg', hc', _⟩
                        · omega
                        obtain ⟨rfl, rfl⟩ : ao = some ⟨g', off', none⟩ ∧ co = cap' := by injection e' with e1 _ e3; exact ⟨e1, e3⟩
                        obtain ⟨y0, y1, y2⟩ := RowR.at3 RS 0 (by omega)
                        obtain ⟨_, _, u2⟩ := RowR.at3 RS 1 (by omega)
                        rw [g0] at y0 y1 y2
                        rw [g1] at u2
                        rw [show markS.2.2 = true from rfl] at y2
                        rw [show markS.2.1 = false from rfl] at y1
                        rw [Nat.zero_mul, Nat.add_zero] at y0
                        rw [Nat.zero_mul, Nat.zero_add] at y1 y2
                        rw [Nat.one_mul] at u2
                        have q1 : (ba markS.1).toList = [45, 45] := by rw [toList_data]; rfl
                        have h0 : (0 : Int) < (S2.opn.length : Int) := by omega
                        have h1 : (1 : Int) < (S2.opn.length : Int) := by omega
                        have he : ((S2.opn.length : Int) == (Q.length : Int) + 1) = true := by rw [hl2]; simp
                        clear RS e' hfar hl2 g0 g1 hbox RL2 RP2 X7
                        go_wp2_with fail
                        go_ret
                        rw [← hBx]
                        exact ⟨rfl, D.out⟩
                      · obtain ⟨hn2, hn3, hn4⟩ := fix_near HF.out.1 hnc
                        rw [hS2e, hQe] at hn2 hn4
                        have hcb := X7.out.rows.1.cap
                        have hco := RP2.out.cap
                        have r1 : RowR wc.drew 3 (.slice ao (S2.opn.length - Q.length) co) (S.opn.take (S.opn.length - xn.toNat)).length (scells (S.opn.take (S.opn.length - xn.toNat))) := by
                          have := (RowR.take3 RP2.out (k := S2.opn.length - Q.length) (by omega)).drew
                          rw [hn4] at this
                          rw [List.length_take, show min (S.opn.length - xn.toNat) S.opn.length = S2.opn.length - Q.length by omega]
                          exact this
                        have r2 : RowR wc.drew 3 (.slice ab (S.opn.length - xn.toNat) cb) (S.opn.take (S.opn.length - xn.toNat)).length (scells (S.opn.take (S.opn.length - xn.toNat))) := by
                          have := (RowR.take3 X7.out.rows.1 (k := S.opn.length - xn.toNat) (by omega)).drew
                          rw [List.length_take, show min (S.opn.length - xn.toNat) S.opn.length = S.opn.length - xn.toNat by omega]
                          exact this
                        have hw1 : IntKind.i64.wrap ((S.opn.length : Int) - xn) = (S.opn.length : Int) - xn := IntWalk.i64_in _ (by omega)
                        have hw2 : IntKind.i64.wrap ((S.opn.length : Int) - xn + (Q.length : Int)) = (S.opn.length : Int) - xn + (Q.length : Int) := IntWalk.i64_in _ (by omega)
                        have hw3 : IntKind.i64.wrap ((S2.opn.length : Int) - (Q.length : Int)) = (S2.opn.length : Int) - (Q.length : Int) := IntWalk.i64_in _ (by have := hS2.len; omega)
                        have he : ((S2.opn.length : Int) == (S.opn.length : Int) - xn + (Q.length : Int)) = true := by simp; omega
                        have t1 : ((S2.opn.length : Int) - (Q.length : Int)).toNat = S2.opn.length - Q.length := by omega
                        have t2 : ((S.opn.length : Int) - xn).toNat = S.opn.length - xn.toNat := by omega
                        have z1 : 0 ≤ (S2.opn.length : Int) - (Q.length : Int) := by omega
                        have z2 : (S2.opn.length : Int) - (Q.length : Int) ≤ (co : Int) := by omega
                        have z3 : 0 ≤ (S.opn.length : Int) - xn := by omega
                        have z4 : (S.opn.length : Int) - xn ≤ (cb : Int) := by omega
                        have z5 : xn ≤ (S.opn.length : Int) := by omega
                        have z6 : (Q.length : Int) ≤ (S2.opn.length : Int) := by omega
                        clear hn2 hn3 hn4 RL2 RP2 X7
                        go_upto_region 47 with fail
                        refine wp_region_tail 29 (S := (fun w' => w'.cell? ⟨B, 1, none⟩ = some (.int .i64 xn))) (by kernel_rfl) x1 (fun hHeld => ?_)
                        simp only [List.size_toArray, List.length_cons, List.length_nil, Nat.zero_add, Nat.reduceAdd]
                        refine wpAnyT_take (i := 0) (oi := { dst := some 217, op := Go.Op.move (Go.Operand.tmp 19), type := 51, pos := "law.go:210", after := #[], guard := none }) (v := ?_) rfl (by kernel_rfl) (by kernel_rfl) (by kernel_rfl) (by kernel_rfl) (fun _ _ _ h => h) (Or.inl ⟨by rfl, ?_⟩) (by assumption) ?_
                        rotate_left
                        · intro w hSw
                          (try dsimp only at hSw)
                          go_simp
                          all_goals (with_reducible rfl)
                        try simp only [Act.put, List.setIfInBounds_toArray, List.set_cons_zero, List.set_cons_succ]
                        refine wpAnyT_take (i := 1) (oi := { dst := some 218, op := Go.Op.call { callee := Go.Callee.builtin Go.Builtin.len, args := #[Go.Operand.tmp 217], argTypes := #[51] }, type := 3, pos := "law.go:210", after := #[{ on := 0, ground := Go.Ground.data }], guard := none }) (v := ?_) rfl (by kernel_rfl) (by kernel_rfl) (by kernel_rfl) (by kernel_rfl) (fun _ _ _ h => h) (Or.inl ⟨by rfl, ?_⟩) (by assumption) ?_
                        rotate_left
                        · intro w hSw
                          (try dsimp only at hSw)
                          go_simp
                          all_goals (with_reducible rfl)
                        try simp only [Act.put, List.setIfInBounds_toArray, List.set_cons_zero, List.set_cons_succ]
                        refine wpAnyT_take (i := 2) (oi := { dst := some 219, op := Go.Op.move (Go.Operand.tmp 12), type := 51, pos := "law.go:210", after := #[], guard := none }) (v := ?_) rfl (by kernel_rfl) (by kernel_rfl) (by kernel_rfl) (by kernel_rfl) (fun _ _ _ h => h) (Or.inl ⟨by rfl, ?_⟩) (by assumption) ?_
                        rotate_left
                        · intro w hSw
                          (try dsimp only at hSw)
                          go_simp
                          all_goals (with_reducible rfl)
                        try simp only [Act.put, List.setIfInBounds_toArray, List.set_cons_zero, List.set_cons_succ]
                        refine wpAnyT_take (i := 3) (oi := { dst := some 220, op := Go.Op.call { callee := Go.Callee.builtin Go.Builtin.len, args := #[Go.Operand.tmp 219], argTypes := #[51] }, type := 3, pos := "law.go:210", after := #[{ on := 2, ground := Go.Ground.data }], guard := none }) (v := ?_) rfl (by kernel_rfl) (by kernel_rfl) (by kernel_rfl) (by kernel_rfl) (fun _ _ _ h => h) (Or.inl ⟨by rfl, ?_⟩) (by assumption) ?_
                        rotate_left
                        · intro w hSw
                          (try dsimp only at hSw)
                          go_simp
                          all_goals (with_reducible rfl)
                        try simp only [Act.put, List.setIfInBounds_toArray, List.set_cons_zero, List.set_cons_succ]
                        refine wpAnyT_take (i := 4) (oi := { dst := some 221, op := Go.Op.fieldAddr 57 (Go.Operand.tmp 5) 1, type := 0, pos := "law.go:210", after := #[], guard := none }) (v := ?_) rfl (by kernel_rfl) (by kernel_rfl) (by kernel_rfl) (by kernel_rfl) (fun _ _ _ h => h) (Or.inl ⟨by rfl, ?_⟩) (by assumption) ?_
                        rotate_left
                        · intro w hSw
                          (try dsimp only at hSw)
                          go_simp
                          all_goals (with_reducible rfl)
                        try simp only [Act.put, List.setIfInBounds_toArray, List.set_cons_zero, List.set_cons_succ]
                        refine wpAnyT_take (i := 5) (oi := { dst := some 222, op := Go.Op.load 3 (Go.Operand.tmp 221), type := 3, pos := "law.go:210", after := #[{ on := 4, ground := Go.Ground.data }], guard := none }) (v := ?_) rfl (by kernel_rfl) (by kernel_rfl) (by kernel_rfl) (by kernel_rfl) (fun _ _ _ h => h) (Or.inl ⟨by rfl, ?_⟩) (by assumption) ?_
                        rotate_left
                        · intro w hSw
                          (try dsimp only at hSw)
                          go_simp
                          all_goals (with_reducible rfl)
                        try simp only [Act.put, List.setIfInBounds_toArray, List.set_cons_zero, List.set_cons_succ]
                        refine wpAnyT_take (i := 6) (oi := { dst := some 223, op := Go.Op.binOp Go.BinOp.sub 3 (Go.Operand.tmp 220) (Go.Operand.tmp 222) 3, type := 3, pos := "law.go:210", after := #[{ on := 3, ground := Go.Ground.data }, { on := 5, ground := Go.Ground.data }], guard := none }) (v := ?_) rfl (by kernel_rfl) (by kernel_rfl) (by kernel_rfl) (by kernel_rfl) (fun _ _ _ h => h) (Or.inl ⟨by rfl, ?_⟩) (by assumption) ?_
                        rotate_left
                        · intro w hSw
                          (try dsimp only at hSw)
                          go_simp
                          all_goals (with_reducible rfl)
                        try simp only [Act.put, List.setIfInBounds_toArray, List.set_cons_zero, List.set_cons_succ]
                        try simp only [hw1]
                        refine wpAnyT_take (i := 7) (oi := { dst := some 224, op := Go.Op.move (Go.Operand.tmp 16), type := 42, pos := "law.go:210", after := #[], guard := none }) (v := ?_) rfl (by kernel_rfl) (by kernel_rfl) (by kernel_rfl) (by kernel_rfl) (fun _ _ _ h => h) (Or.inl ⟨by rfl, ?_⟩) (by assumption) ?_
                        rotate_left
                        · intro w hSw
                          (try dsimp only at hSw)
                          go_simp
                          all_goals (with_reducible rfl)
                        try simp only [Act.put, List.setIfInBounds_toArray, List.set_cons_zero, List.set_cons_succ]
                        refine wpAnyT_take (i := 8) (oi := { dst := some 225, op := Go.Op.call { callee := Go.Callee.builtin Go.Builtin.len, args := #[Go.Operand.tmp 224], argTypes := #[42] }, type := 3, pos := "law.go:210", after := #[{ on := 7, ground := Go.Ground.data }], guard := none }) (v := ?_) rfl (by kernel_rfl) (by kernel_rfl) (by kernel_rfl) (by kernel_rfl) (fun _ _ _ h => h) (Or.inl ⟨by rfl, ?_⟩) (by assumption) ?_
                        rotate_left
                        · intro w hSw
                          (try dsimp only at hSw)
                          go_simp
                          all_goals (with_reducible rfl)
                        try simp only [Act.put, List.setIfInBounds_toArray, List.set_cons_zero, List.set_cons_succ]
                        refine wpAnyT_take (i := 9) (oi := { dst := some 226, op := Go.Op.binOp Go.BinOp.add 3 (Go.Operand.tmp 223) (Go.Operand.tmp 225) 3, type := 3, pos := "law.go:210", after := #[{ on := 6, ground := Go.Ground.data }, { on := 8, ground := Go.Ground.data }], guard := none }) (v := ?_) rfl (by kernel_rfl) (by kernel_rfl) (by kernel_rfl) (by kernel_rfl) (fun _ _ _ h => h) (Or.inl ⟨by rfl, ?_⟩) (by assumption) ?_
                        rotate_left
                        · intro w hSw
                          (try dsimp only at hSw)
                          go_simp
                          all_goals (with_reducible rfl)
                        try simp only [Act.put, List.setIfInBounds_toArray, List.set_cons_zero, List.set_cons_succ]
                        try simp only [hw2]
                        refine wpAnyT_take (i := 10) (oi := { dst := some 227, op := Go.Op.binOp Go.BinOp.eql 3 (Go.Operand.tmp 218) (Go.Operand.tmp 226) 3, type := 4, pos := "law.go:210", after := #[{ on := 1, ground := Go.Ground.data }, { on := 9, ground := Go.Ground.data }], guard := none }) (v := ?_) rfl (by kernel_rfl) (by kernel_rfl) (by kernel_rfl) (by kernel_rfl) (fun _ _ _ h => h) (Or.inl ⟨by rfl, ?_⟩) (by assumption) ?_
                        rotate_left
                        · intro w hSw
                          (try dsimp only at hSw)
                          go_simp
                          all_goals (with_reducible rfl)
                        try simp only [Act.put, List.setIfInBounds_toArray, List.set_cons_zero, List.set_cons_succ]
                        try simp only [he]
                        refine wpAnyT_take (i := 11) (oi := { dst := some 228, op := Go.Op.move (Go.Operand.tmp 227), type := 4, pos := "law.go:210", after := #[{ on := 10, ground := Go.Ground.data }], guard := none }) (v := ?_) rfl (by kernel_rfl) (by kernel_rfl) (by kernel_rfl) (by kernel_rfl) (fun _ _ _ h => h) (Or.inl ⟨by rfl, ?_⟩) (by assumption) ?_
                        rotate_left
                        · intro w hSw
                          (try dsimp only at hSw)
                          go_simp
                          all_goals (with_reducible rfl)
                        try simp only [Act.put, List.setIfInBounds_toArray, List.set_cons_zero, List.set_cons_succ]
                        refine wpAnyT_take (i := 12) (oi := { dst := some 229, op := Go.Op.move (Go.Operand.tmp 19), type := 51, pos := "law.go:210", after := #[{ on := 11, ground := Go.Ground.guard }], guard := some (11, true) }) (v := ?_) rfl (by kernel_rfl) (by kernel_rfl) (by kernel_rfl) (by kernel_rfl) (fun _ _ _ h => h) (Or.inl ⟨by rfl, ?_⟩) (by assumption) ?_
                        rotate_left
                        · intro w hSw
                          (try dsimp only at hSw)
                          go_simp
                          all_goals (with_reducible rfl)
                        try simp only [Act.put, List.setIfInBounds_toArray, List.set_cons_zero, List.set_cons_succ]
                        refine wpAnyT_take (i := 13) (oi := { dst := some 230, op := Go.Op.move (Go.Operand.tmp 19), type := 51, pos := "law.go:210", after := #[{ on := 11, ground := Go.Ground.guard }], guard := some (11, true) }) (v := ?_) rfl (by kernel_rfl) (by kernel_rfl) (by kernel_rfl) (by kernel_rfl) (fun _ _ _ h => h) (Or.inl ⟨by rfl, ?_⟩) (by assumption) ?_
                        rotate_left
                        · intro w hSw
                          (try dsimp only at hSw)
                          go_simp
                          all_goals (with_reducible rfl)
                        try simp only [Act.put, List.setIfInBounds_toArray, List.set_cons_zero, List.set_cons_succ]
                        refine wpAnyT_take (i := 14) (oi := { dst := some 231, op := Go.Op.call { callee := Go.Callee.builtin Go.Builtin.len, args := #[Go.Operand.tmp 230], argTypes := #[51] }, type := 3, pos := "law.go:210", after := #[{ on := 13, ground := Go.Ground.data }, { on := 11, ground := Go.Ground.guard }], guard := some (11, true) }) (v := ?_) rfl (by kernel_rfl) (by kernel_rfl) (by kernel_rfl) (by kernel_rfl) (fun _ _ _ h => h) (Or.inl ⟨by rfl, ?_⟩) (by assumption) ?_
                        rotate_left
                        · intro w hSw
                          (try dsimp only at hSw)
                          go_simp
                          all_goals (with_reducible rfl)
                        try simp only [Act.put, List.setIfInBounds_toArray, List.set_cons_zero, List.set_cons_succ]
                        refine wpAnyT_take (i := 15) (oi := { dst := some 232, op := Go.Op.move (Go.Operand.tmp 16), type := 42, pos := "law.go:210", after := #[{ on := 11, ground := Go.Ground.guard }], guard := some (11, true) }) (v := ?_) rfl (by kernel_rfl) (by kernel_rfl) (by kernel_rfl) (by kernel_rfl) (fun _ _ _ h => h) (Or.inl ⟨by rfl, ?_⟩) (by assumption) ?_
                        rotate_left
                        · intro w hSw
                          (try dsimp only at hSw)
                          go_simp
                          all_goals (with_reducible rfl)
                        try simp only [Act.put, List.setIfInBounds_toArray, List.set_cons_zero, List.set_cons_succ]
                        refine wpAnyT_take (i := 16) (oi := { dst := some 233, op := Go.Op.call { callee := Go.Callee.builtin Go.Builtin.len, args := #[Go.Operand.tmp 232], argTypes := #[42] }, type := 3, pos := "law.go:210", after := #[{ on := 15, ground := Go.Ground.data }, { on := 11, ground := Go.Ground.guard }], guard := some (11, true) }) (v := ?_) rfl (by kernel_rfl) (by kernel_rfl) (by kernel_rfl) (by kernel_rfl) (fun _ _ _ h => h) (Or.inl ⟨by rfl, ?_⟩) (by assumption) ?_
                        rotate_left
                        · intro w hSw
                          (try dsimp only at hSw)
                          go_simp
                          all_goals (with_reducible rfl)
                        try simp only [Act.put, List.setIfInBounds_toArray, List.set_cons_zero, List.set_cons_succ]
                        refine wpAnyT_take (i := 17) (oi := { dst := some 234, op := Go.Op.binOp Go.BinOp.sub 3 (Go.Operand.tmp 231) (Go.Operand.tmp 233) 3, type := 3, pos := "law.go:210", after := #[{ on := 14, ground := Go.Ground.data }, { on := 16, ground := Go.Ground.data }, { on := 11, ground := Go.Ground.guard }], guard := some (11, true) }) (v := ?_) rfl (by kernel_rfl) (by kernel_rfl) (by kernel_rfl) (by kernel_rfl) (fun _ _ _ h => h) (Or.inl ⟨by rfl, ?_⟩) (by assumption) ?_
                        rotate_left
                        · intro w hSw
                          (try dsimp only at hSw)
                          go_simp
                          all_goals (with_reducible rfl)
                        try simp only [Act.put, List.setIfInBounds_toArray, List.set_cons_zero, List.set_cons_succ]
                        try simp only [hw3]
                        refine wpAnyT_take (i := 18) (oi := { dst := some 235, op := Go.Op.slice 51 (Go.Operand.tmp 229) none (some (Go.Operand.tmp 234)) none, type := 51, pos := "law.go:210", after := #[{ on := 12, ground := Go.Ground.data }, { on := 17, ground := Go.Ground.data }, { on := 11, ground := Go.Ground.guard }], guard := some (11, true) }) (v := ?_) rfl (by kernel_rfl) (by kernel_rfl) (by kernel_rfl) (by kernel_rfl) (fun _ _ _ h => h) (Or.inl ⟨by rfl, ?_⟩) (by assumption) ?_
                        rotate_left
                        · intro w hSw
                          (try dsimp only at hSw)
                          go_simp
                          all_goals (with_reducible rfl)
                        try simp only [Act.put, List.setIfInBounds_toArray, List.set_cons_zero, List.set_cons_succ]
                        try simp only [t1]
                        refine wpAnyT_take (i := 19) (oi := { dst := some 236, op := Go.Op.move (Go.Operand.tmp 12), type := 51, pos := "law.go:210", after := #[{ on := 11, ground := Go.Ground.guard }], guard := some (11, true) }) (v := ?_) rfl (by kernel_rfl) (by kernel_rfl) (by kernel_rfl) (by kernel_rfl) (fun _ _ _ h => h) (Or.inl ⟨by rfl, ?_⟩) (by assumption) ?_
                        rotate_left
                        · intro w hSw
                          (try dsimp only at hSw)
                          go_simp
                          all_goals (with_reducible rfl)
                        try simp only [Act.put, List.setIfInBounds_toArray, List.set_cons_zero, List.set_cons_succ]
                        refine wpAnyT_take (i := 20) (oi := { dst := some 237, op := Go.Op.move (Go.Operand.tmp 12), type := 51, pos := "law.go:210", after := #[{ on := 11, ground := Go.Ground.guard }], guard := some (11, true) }) (v := ?_) rfl (by kernel_rfl) (by kernel_rfl) (by kernel_rfl) (by kernel_rfl) (fun _ _ _ h => h) (Or.inl ⟨by rfl, ?_⟩) (by assumption) ?_
                        rotate_left
                        · intro w hSw
                          (try dsimp only at hSw)
                          go_simp
                          all_goals (with_reducible rfl)
                        try simp only [Act.put, List.setIfInBounds_toArray, List.set_cons_zero, List.set_cons_succ]
                        refine wpAnyT_take (i := 21) (oi := { dst := some 238, op := Go.Op.call { callee := Go.Callee.builtin Go.Builtin.len, args := #[Go.Operand.tmp 237], argTypes := #[51] }, type := 3, pos := "law.go:210", after := #[{ on := 20, ground := Go.Ground.data }, { on := 11, ground := Go.Ground.guard }], guard := some (11, true) }) (v := ?_) rfl (by kernel_rfl) (by kernel_rfl) (by kernel_rfl) (by kernel_rfl) (fun _ _ _ h => h) (Or.inl ⟨by rfl, ?_⟩) (by assumption) ?_
                        rotate_left
                        · intro w hSw
                          (try dsimp only at hSw)
                          go_simp
                          all_goals (with_reducible rfl)
                        try simp only [Act.put, List.setIfInBounds_toArray, List.set_cons_zero, List.set_cons_succ]
                        refine wpAnyT_take (i := 22) (oi := { dst := some 239, op := Go.Op.fieldAddr 57 (Go.Operand.tmp 5) 1, type := 0, pos := "law.go:210", after := #[{ on := 11, ground := Go.Ground.guard }], guard := some (11, true) }) (v := ?_) rfl (by kernel_rfl) (by kernel_rfl) (by kernel_rfl) (by kernel_rfl) (fun _ _ _ h => h) (Or.inl ⟨by rfl, ?_⟩) (by assumption) ?_
                        rotate_left
                        · intro w hSw
                          (try dsimp only at hSw)
                          go_simp
                          all_goals (with_reducible rfl)
                        try simp only [Act.put, List.setIfInBounds_toArray, List.set_cons_zero, List.set_cons_succ]
                        refine wpAnyT_take (i := 23) (oi := { dst := some 240, op := Go.Op.load 3 (Go.Operand.tmp 239), type := 3, pos := "law.go:210", after := #[{ on := 22, ground := Go.Ground.data }, { on := 11, ground := Go.Ground.guard }], guard := some (11, true) }) (v := ?_) rfl (by kernel_rfl) (by kernel_rfl) (by kernel_rfl) (by kernel_rfl) (fun _ _ _ h => h) (Or.inl ⟨by rfl, ?_⟩) (by assumption) ?_
                        rotate_left
                        · intro w hSw
                          (try dsimp only at hSw)
                          go_simp
                          all_goals (with_reducible rfl)
                        try simp only [Act.put, List.setIfInBounds_toArray, List.set_cons_zero, List.set_cons_succ]
                        refine wpAnyT_take (i := 24) (oi := { dst := some 241, op := Go.Op.binOp Go.BinOp.sub 3 (Go.Operand.tmp 238) (Go.Operand.tmp 240) 3, type := 3, pos := "law.go:210", after := #[{ on := 21, ground := Go.Ground.data }, { on := 23, ground := Go.Ground.data }, { on := 11, ground := Go.Ground.guard }], guard := some (11, true) }) (v := ?_) rfl (by kernel_rfl) (by kernel_rfl) (by kernel_rfl) (by kernel_rfl) (fun _ _ _ h => h) (Or.inl ⟨by rfl, ?_⟩) (by assumption) ?_
                        rotate_left
                        · intro w hSw
                          (try dsimp only at hSw)
                          go_simp
                          all_goals (with_reducible rfl)
                        try simp only [Act.put, List.setIfInBounds_toArray, List.set_cons_zero, List.set_cons_succ]
                        try simp only [hw1]
                        refine wpAnyT_take (i := 25) (oi := { dst := some 242, op := Go.Op.slice 51 (Go.Operand.tmp 236) none (some (Go.Operand.tmp 241)) none, type := 51, pos := "law.go:210", after := #[{ on := 19, ground := Go.Ground.data }, { on := 24, ground := Go.Ground.data }, { on := 11, ground := Go.Ground.guard }], guard := some (11, true) }) (v := ?_) rfl (by kernel_rfl) (by kernel_rfl) (by kernel_rfl) (by kernel_rfl) (fun _ _ _ h => h) (Or.inl ⟨by rfl, ?_⟩) (by assumption) ?_
                        rotate_left
                        · intro w hSw
                          (try dsimp only at hSw)
                          go_simp
                          all_goals (with_reducible rfl)
                        try simp only [Act.put, List.setIfInBounds_toArray, List.set_cons_zero, List.set_cons_succ]
                        try simp only [t2]
                        refine wpAnyT_one (i := 26) (o := { dst := some 243, op := Go.Op.call { callee := Go.Callee.value (Go.Operand.func 44), args := #[Go.Operand.tmp 235, Go.Operand.tmp 242], argTypes := #[51, 51] }, type := 4, pos := "law.go:210", after := #[{ on := 18, ground := Go.Ground.data }, { on := 25, ground := Go.Ground.data }, { on := 11, ground := Go.Ground.chain }, { on := 11, ground := Go.Ground.guard }], guard := some (11, true) }) (by kernel_rfl) rfl (fun K hK => ?_)
                        clear hHeld
                        go_simp
                        go_at_call 44
                        refine (words_same wc.drew _ _ (S.opn.take (S.opn.length - xn.toNat)) r1 r2 (by rw [List.length_take]; omega)).mono ?_
                        rintro e w11 ⟨rfl, hb11⟩
                        have D2 := Lib.hid (D.out.drew.trans (hb11.mono D.out.size))
                        have x1' := (blk3 (blk_stay (show wc.drew.heap[B]? = _ from hbox) hb11)).2.1
                        go_wp2_with fail
                        refine hK.out _ _ x1' (fun hHeld => ?_)
                        clear hK K
                        try simp only [Act.put, List.setIfInBounds_toArray, List.set_cons_zero, List.set_cons_succ]
                        refine wpAnyT_take (i := 27) (oi := { dst := some 244, op := Go.Op.pick (Go.Operand.tmp 228) (Go.Operand.tmp 243) (Go.Operand.const (Go.Value.bool false)), type := 4, pos := "law.go:210", after := #[{ on := 11, ground := Go.Ground.data }, { on := 26, ground := Go.Ground.data }], guard := none }) (v := ?_) rfl (by kernel_rfl) (by kernel_rfl) (by kernel_rfl) (by kernel_rfl) (fun _ _ _ h => h) (Or.inl ⟨by rfl, ?_⟩) (by assumption) ?_
                        rotate_left
                        · intro w hSw
                          (try dsimp only at hSw)
                          go_simp
                          all_goals (with_reducible rfl)
                        try simp only [Act.put, List.setIfInBounds_toArray, List.set_cons_zero, List.set_cons_succ]
                        refine wpAnyT_take (i := 28) (oi := { dst := some 6, op := Go.Op.assign (Go.Operand.tmp 244), type := 4, pos := "law.go:210", after := #[{ on := 27, ground := Go.Ground.data }, { on := 26, ground := Go.Ground.chain }, { on := 0, ground := Go.Ground.phase }, { on := 1, ground := Go.Ground.phase }, { on := 2, ground := Go.Ground.phase }, { on := 3, ground := Go.Ground.phase }, { on := 4, ground := Go.Ground.phase }, { on := 5, ground := Go.Ground.phase }, { on := 6, ground := Go.Ground.phase }, { on := 7, ground := Go.Ground.phase }, { on := 8, ground := Go.Ground.phase }, { on := 9, ground := Go.Ground.phase }, { on := 10, ground := Go.Ground.phase }, { on := 11, ground := Go.Ground.phase }, { on := 12, ground := Go.Ground.phase }, { on := 13, ground := Go.Ground.phase }, { on := 14, ground := Go.Ground.phase }, { on := 15, ground := Go.Ground.phase }, { on := 16, ground := Go.Ground.phase }, { on := 17, ground := Go.Ground.phase }, { on := 18, ground := Go.Ground.phase }, { on := 19, ground := Go.Ground.phase }, { on := 20, ground := Go.Ground.phase }, { on := 21, ground := Go.Ground.phase }, { on := 22, ground := Go.Ground.phase }, { on := 23, ground := Go.Ground.phase }, { on := 24, ground := Go.Ground.phase }, { on := 25, ground := Go.Ground.phase }, { on := 26, ground := Go.Ground.phase }, { on := 27, ground := Go.Ground.phase }], guard := none }) (v := ?_) rfl (by kernel_rfl) (by kernel_rfl) (by kernel_rfl) (by kernel_rfl) (fun _ _ _ h => h) (Or.inl ⟨by rfl, ?_⟩) (by assumption) ?_
                        rotate_left
                        · intro w hSw
                          (try dsimp only at hSw)
                          go_simp
                          all_goals (with_reducible rfl)
                        try simp only [Act.put, List.setIfInBounds_toArray, List.set_cons_zero, List.set_cons_succ]
                        refine wpAnyT_done (by kernel_rfl) ?_ _
                        clear hHeld
                        go_wp2_with fail
                        go_ret
                        rw [← hBx]
                        exact ⟨rfl, D2.out⟩
            · rw [fix_same hz] at X2
              have hzz : ((S.fix xn T.data.toList).2 == 0) = false := by simpa using hz
              generalize (S.fix xn T.data.toList).2 = Z at *
              obtain ⟨F, hO⟩ := X2.out.ow
              go_wp2_with fail
              refine (open_ow hO HS.out.1).mono ?_
              rintro e w7 ⟨v7, rfl, ho7, hO7, hb7⟩
              have X3 := Lib.hid (X2.out.below hb7)
              have R7 := Lib.hid (RowR.of_own ho7)
              clear X2 ho7 hb7 hO
              go_wp2_with fail
              refine (words_same w7 v7 _ S.opn R7.out X3.out.rows.1 (by have := HS.out.1.len; omega)).mono ?_
              rintro e w8 ⟨rfl, hb8⟩
              have X4 := Lib.hid (X3.out.below hb8)
              have hO8 := hO7.below hb8
              clear X3 R7 hb8 hO7
              go_wp2_with fail
              refine (said_ow hO8 HS.out.1).mono ?_
              rintro e w9 ⟨v9, rfl, hr9, _, hb9⟩
              have X5 := Lib.hid (X4.out.below hb9)
              have R9 := Lib.hid hr9
              clear X4 hr9 hb9 hO8
              go_wp2_with fail
              refine (texts_same w9 v9 _ S.said R9.out X5.out.rows.2 (by have := last8_len S.all; show (last8 S.all).length ≤ 100000; omega)).mono ?_
              rintro e w10 ⟨rfl, hb10⟩
              have D := Lib.hid (X5.out.below hb10).dn
              clear X5 R9 hb10
              go_wp2_with fail
              go_ret
              rw [← hBx]
              exact ⟨rfl, D.out⟩
end Go.Proofs.YtheemefggkcfbaaDoor
