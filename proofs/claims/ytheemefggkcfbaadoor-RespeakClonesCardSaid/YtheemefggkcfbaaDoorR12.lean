import Derived.Test.YtheemefggkcfbaaDoorR11
import Derived.Lib.SplitLaws
namespace Go.Proofs.YtheemefggkcfbaaDoor
open Go Go.Lib Go.RowKit Go.Shelf
/-! ### words that spaces part -/
def spGo : List UInt8 → List UInt8 → List (List UInt8)
  | cur, [] => if cur = [] then [] else [cur]
  | cur, b :: t => if b = 32 then (if cur = [] then [] else [cur]) ++ spGo [] t else spGo (cur ++ [b]) t
def spW (l : List UInt8) : List (List UInt8) := spGo [] l
theorem spGo_cons (cur : List UInt8) (b : UInt8) (t : List UInt8) : spGo cur (b :: t) = if b = 32 then (if cur = [] then [] else [cur]) ++ spGo [] t else spGo (cur ++ [b]) t := rfl
theorem spGo_pass : ∀ (xs cur t : List UInt8), (32 : UInt8) ∉ xs → spGo cur (xs ++ t) = spGo (cur ++ xs) t
  | [], cur, t, _ => by simp
  | b :: xs, cur, t, h => by
    rw [List.cons_append, spGo_cons, if_neg (fun e => h (by simp [e])), spGo_pass xs (cur ++ [b]) t (fun e => h (by simp [e]))]
    simp
theorem idx32 : ∀ l : List UInt8, (Lib.index l [32] = -1 ∧ (32 : UInt8) ∉ l) ∨ ∃ pre t, l = pre ++ 32 :: t ∧ (32 : UInt8) ∉ pre ∧ Lib.index l [32] = pre.length
  | [] => Or.inl ⟨by simp [Lib.index], by simp⟩
  | b :: l => by
    by_cases h : (32 : UInt8) = b
    · subst h
      exact Or.inr ⟨[], l, rfl, by simp, by simp [Lib.index]⟩
    · have e : ([32] : List UInt8).isPrefixOf (b :: l) = false := by simp [List.isPrefixOf, h]
      have hstep : Lib.index (b :: l) [32] = if Lib.index l [32] == -1 then -1 else Lib.index l [32] + 1 := by
        conv => lhs; unfold Lib.index
        rw [e, if_neg (by simp)]
      rcases idx32 l with ⟨h1, h2⟩ | ⟨pre, t, h1, h2, h3⟩
      · left
        rw [hstep, h1]
        exact ⟨rfl, by simp [h, h2]⟩
      · right
        refine ⟨b :: pre, t, by rw [h1]; rfl, by simp [h, h2], ?_⟩
        rw [hstep, h3, if_neg (by simp)]
        simp
theorem spW_none {l : List UInt8} (h : (32 : UInt8) ∉ l) : spW l = if l = [] then [] else [l] := by
  have := spGo_pass l [] [] h
  rw [List.append_nil, List.nil_append] at this
  unfold spW; rw [this]; rfl
theorem spW_some {pre t : List UInt8} (h : (32 : UInt8) ∉ pre) : spW (pre ++ 32 :: t) = (if pre = [] then [] else [pre]) ++ spW t := by
  unfold spW
  rw [spGo_pass pre [] _ h, List.nil_append, spGo_cons, if_pos rfl]
def sepS : ByteArray := ⟨#[32]⟩
theorem split_filter : ∀ (k : Nat) (s : ByteArray), Lib.countB s sepS = k → ((Lib.splitB sepS 0 k s).map (·.data.toList)).filter (fun x => !x.isEmpty) = spW s.data.toList := by
  intro k
  induction k with
  | zero =>
    intro s hc
    rw [splitB_zero]
    rcases idx32 s.data.toList with ⟨h1, h2⟩ | ⟨pre, t, h1, h2, h3⟩
    · rw [spW_none h2]
      by_cases h : s.data.toList = []
      · simp [h]
      · rw [if_neg h]; simp [h]
    · have := countB_hit s sepS pre.length (by decide) h3
      omega
  | succ k ih =>
    intro s hc
    rcases idx32 s.data.toList with ⟨h1, h2⟩ | ⟨pre, t, h1, h2, h3⟩
    · have := countB_miss s sepS h1
      omega
    · have hcb := countB_hit s sepS pre.length (by decide) h3
      rw [splitB_hit sepS 0 k s pre.length h3, List.map_cons]
      have e1 : (s.extract 0 (pre.length + 0)).data.toList = pre := by rw [extract_data, h1]; simp
      have e2 : (s.extract (pre.length + sepS.size) s.size).data.toList = t := by
        rw [extract_data, size_eq, h1, show sepS.size = 1 from rfl]
        rw [List.take_of_length_le (by rw [List.length_drop]; omega)]
        rw [show pre ++ 32 :: t = (pre ++ [32]) ++ t by simp, List.drop_left' (by simp)]
      have hi := ih (s.extract (pre.length + sepS.size) s.size) (by omega)
      rw [e2] at hi
      rw [e1, h1, spW_some h2, List.filter_cons, hi]
      by_cases h : pre = []
      · simp [h]
      · rw [if_pos (by simp [h]), if_neg h]; rfl
end Go.Proofs.YtheemefggkcfbaaDoor
