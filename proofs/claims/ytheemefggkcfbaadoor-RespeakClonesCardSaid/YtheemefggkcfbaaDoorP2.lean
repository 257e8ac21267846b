import Derived.Test.YtheemefggkcfbaaDoorT9
import Derived.Test.YtheemefggkcfbaaDoorP1
namespace Go.Proofs.YtheemefggkcfbaaDoor
open Go Go.Lib Go.RowKit Go.Shelf
/-- The strength behind the i-th word. -/
def strAt (L : List (List UInt8)) (i : Nat) : Int := if i + 1 < L.length then strW (L.getD i []) (L.getD (i + 1) []) else 5
/-- The first k tokens of words. -/
def tokK (L : List (List UInt8)) (k : Nat) : List (List UInt8 × Int) := (List.range k).map fun i => (L.getD i [], strAt L i)
theorem tokK_zero (L : List (List UInt8)) : tokK L 0 = [] := rfl
theorem tokK_succ (L : List (List UInt8)) (k : Nat) : tokK L (k + 1) = tokK L k ++ [(L.getD k [], strAt L k)] := by
  unfold tokK; rw [List.range_succ, List.map_append]; rfl
theorem tokK_len (L : List (List UInt8)) (k : Nat) : (tokK L k).length = k := by simp [tokK]
def tokL (L : List (List UInt8)) : List (List UInt8 × Int) := tokK L L.length
theorem tokL_len (L : List (List UInt8)) : (tokL L).length = L.length := tokK_len L _
theorem tokL_fst (L : List (List UInt8)) : (tokL L).map (·.1) = L := by
  apply List.ext_getElem
  · simp [tokL_len]
  · intro i h1 h2
    simp [tokL, tokK, List.getD_eq_getElem?_getD, List.getElem?_eq_getElem h2]
theorem strAt_range (L : List (List UInt8)) (i : Nat) : 0 ≤ strAt L i ∧ strAt L i ≤ 5 := by
  unfold strAt
  split
  · exact strW_range _ _
  · omega
theorem tokL_range (L : List (List UInt8)) : ∀ x ∈ tokL L, 0 ≤ x.2 ∧ x.2 ≤ 5 := by
  intro x hx
  unfold tokL tokK at hx
  obtain ⟨i, _, rfl⟩ := List.mem_map.1 hx
  exact strAt_range L i
/-- What Split of token returns: the error, and the tokens. -/
def splitE (l : List UInt8) : Int := if (words l).all validC then (if 200 < (words l).length then 9 else 0) else 10
def splitL (l : List UInt8) : List (List UInt8 × Int) := if splitE l = 0 then tokL (words l) else []
def tcell (t : List UInt8 × Int) : List Value := [strV t.1, .int .i64 t.2]
def tcells (l : List (List UInt8 × Int)) : List Value := l.flatMap tcell
theorem tcells_nil : tcells [] = [] := rfl
theorem tcells_cons (t : List UInt8 × Int) (l : List (List UInt8 × Int)) : tcells (t :: l) = strV t.1 :: .int .i64 t.2 :: tcells l := rfl
theorem tcells_app (l m : List (List UInt8 × Int)) : tcells (l ++ m) = tcells l ++ tcells m := by simp [tcells]
theorem tcells_len (l : List (List UInt8 × Int)) : (tcells l).length = l.length * 2 := by
  induction l with
  | nil => rfl
  | cons t l ih => rw [tcells_cons, List.length_cons, List.length_cons, ih, List.length_cons]; omega
theorem tcells_get : ∀ (l : List (List UInt8 × Int)) (k : Nat) (h : k < l.length), (tcells l)[k * 2]? = some (strV l[k].1) ∧ (tcells l)[k * 2 + 1]? = some (.int .i64 l[k].2)
  | [], k, h => by simp at h
  | t :: l, 0, _ => ⟨rfl, rfl⟩
  | t :: l, k + 1, h => by
    have ih := tcells_get l k (by simpa using h)
    rw [tcells_cons]
    have e1 : (k + 1) * 2 = k * 2 + 1 + 1 := by omega
    have e2 : (k + 1) * 2 + 1 = k * 2 + 1 + 1 + 1 := by omega
    rw [e2, e1]
    simpa using ih
theorem words_mem_len : ∀ (t cur : List UInt8), ∀ x ∈ wordsGo cur t, x.length ≤ cur.length + t.length
  | [], cur, x, hx => by
    unfold wordsGo at hx
    by_cases h : cur = []
    · rw [if_pos h] at hx; cases hx
    · rw [if_neg h] at hx
      obtain rfl : x = cur := by simpa using hx
      simp
  | b :: t, cur, x, hx => by
    rw [wordsGo_cons] at hx
    by_cases hb : isSep b = true
    · rw [if_pos hb, List.mem_append] at hx
      rcases hx with hx | hx
      · by_cases h : cur = []
        · rw [if_pos h] at hx; cases hx
        · rw [if_neg h] at hx
          obtain rfl : x = cur := by simpa using hx
          simp
      · have := words_mem_len t [] x hx
        simp at this ⊢; omega
    · rw [if_neg hb] at hx
      have := words_mem_len t (cur ++ [b]) x hx
      simp at this ⊢; omega
theorem words_getD_len (l : List UInt8) (i : Nat) : ((words l).getD i []).length ≤ l.length := by
  by_cases h : i < (words l).length
  · have := words_mem_len l [] ((words l).getD i []) (by
      rw [List.getD_eq_getElem?_getD, List.getElem?_eq_getElem h]; exact List.getElem_mem h)
    simpa using this
  · rw [List.getD_eq_getElem?_getD, List.getElem?_eq_none (by omega)]; simp
theorem all_step (L : List (List UInt8)) (i : Nat) (hi : i < L.length) : (L.drop i).all validC = (validC (L.getD i []) && (L.drop (i + 1)).all validC) := by
  rw [List.drop_eq_getElem_cons hi, List.all_cons, List.getD_eq_getElem?_getD, List.getElem?_eq_getElem hi]
  rfl
/-- A slice of tokens that the call made, and an error. -/
def MadeT (B : Nat) (ts : List (List UInt8 × Int)) (err : Int) (w : World) (e : Ending) (w' : World) : Prop :=
  ∃ v, e = .returned (.tuple #[v, .int .i64 err]) ∧ w'.ownsRow B 30 2 v ts.length (tcells ts) ∧ Below B w w'
theorem own_stays {B : Nat} {E : TypeId} {s n : Nat} {v : Value} {xs : List Value} {w w' : World} (hown : w.ownsRow B E s v n xs) (hb : Below w.heap.size w w') : w'.ownsRow B E s v n xs := by
  refine ⟨hown.1, ?_⟩
  rcases hown.2 with h | ⟨g', c', cur', hv, hgb, hgg, rest⟩
  · exact Or.inl h
  · exact Or.inr ⟨g', c', cur', hv, hgb, by rw [hb.block _ (Array.getElem?_eq_some_iff.1 hgg).1]; exact hgg, rest⟩
/-- Rows of two types are two blocks. -/
theorem rows_apart {w : World} {B B' s s' n m : Nat} {E E' : TypeId} {v u : Value} {xs ys : List Value} (hE : E ≠ E') (h : w.ownsRow B E s v n xs) (h' : w.ownsRow B' E' s' u m ys) : u.ownBlock = none ∨ u.ownBlock ≠ v.ownBlock := by
  rcases h'.2 with ⟨rfl, _⟩ | ⟨g', c', cur', rfl, _, hg', _⟩
  · exact Or.inl rfl
  · right
    rcases h.2 with ⟨rfl, _⟩ | ⟨g, c, cur, rfl, _, hg, _⟩
    · simp [Value.ownBlock]
    · simp only [Value.ownBlock, ne_eq, Option.some.injEq]
      intro e; subst e
      rw [hg] at hg'
      simp at hg'
      exact hE hg'.2
theorem splitE_ok {l : List UInt8} (h : splitE l = 0) : (words l).all validC = true ∧ (words l).length ≤ 200 := by
  unfold splitE at h
  by_cases h1 : (words l).all validC = true
  · rw [if_pos h1] at h
    by_cases h2 : 200 < (words l).length
    · rw [if_pos h2] at h; omega
    · exact ⟨h1, by omega⟩
  · rw [if_neg h1] at h; omega
theorem splitL_len (l : List UInt8) : (splitL l).length ≤ 200 := by
  unfold splitL
  by_cases h : splitE l = 0
  · rw [if_pos h, tokL_len]; exact (splitE_ok h).2
  · rw [if_neg h]; simp
end Go.Proofs.YtheemefggkcfbaaDoor
