/- The list of all codes of the reference, piece by piece, and what its cells hold. -/
import Derived.Test.YtjghleeobdbkgaaStyles
namespace Go.Proofs.Ytjghleeobdbkgaa
open Go.RowKit Pl
set_option linter.unusedVariables false
def cvl (x : Cd) : List Value := [.int .u8 x.1, .int .i64 x.2.1, .int .i64 x.2.2.1, .int .u8 x.2.2.2.1, .bool x.2.2.2.2.1, .bool x.2.2.2.2.2]
def cvs (l : List Cd) : List Value := l.flatMap cvl
def A1 (k : Nat) : List Cd := (List.range k).flatMap fun (r : Nat) => evrow (r : Int)
def A2 (k j : Nat) : List Cd := A1 k ++ (List.range j).map fun (s : Nat) => ((1, (k : Int), 0, stn s) : Cd)
def A3 (k m : Nat) : List Cd := A2 k 16 ++ (List.range m).flatMap fun (c : Nat) => [((1, (k : Int), 4 * ((c : Int) + 1), 0, false, false) : Cd), (1, (k : Int), 4 * ((c : Int) + 1), 0, false, true)]
def A4 (j : Nat) : List Cd := A1 15 ++ (List.range j).map fun (s : Nat) => ((2, 0, 0, stn s) : Cd)
def A5 (m : Nat) : List Cd := A4 16 ++ (List.range m).map fun (l : Nat) => ((3, 0, (l : Int) + 1, 0, false, false) : Cd)
def A6 (m : Nat) : List Cd := A5 3 ++ (List.range m).map fun (x : Nat) => (((x : Int) + 4, 0, 0, 0, false, false) : Cd)
theorem A2_zero (k : Nat) : A2 k 0 = A1 k := by simp [A2]
theorem A2_succ (k j : Nat) : A2 k (j + 1) = A2 k j ++ [((1, (k : Int), 0, stn j) : Cd)] := by simp [A2, List.range_succ]
theorem A3_zero (k : Nat) : A3 k 0 = A2 k 16 := by simp [A3]
theorem A3_succ (k m : Nat) : A3 k (m + 1) = A3 k m ++ [((1, (k : Int), 4 * ((m : Int) + 1), 0, false, false) : Cd), (1, (k : Int), 4 * ((m : Int) + 1), 0, false, true)] := by simp [A3, List.range_succ]
theorem evrow_eq (r : Int) : evrow r = ((List.range 16).map fun (s : Nat) => ((1, r, 0, stn s) : Cd)) ++ (List.range 7).flatMap fun (c : Nat) => [((1, r, 4 * ((c : Int) + 1), 0, false, false) : Cd), (1, r, 4 * ((c : Int) + 1), 0, false, true)] := rfl
theorem A1_succ (k : Nat) : A1 (k + 1) = A3 k 7 := by
  have : A1 (k + 1) = A1 k ++ evrow (k : Int) := by simp [A1, List.range_succ]
  rw [this, evrow_eq]; simp only [A3, A2, List.append_assoc]
theorem A4_zero : A4 0 = A1 15 := by simp [A4]
theorem A4_succ (j : Nat) : A4 (j + 1) = A4 j ++ [((2, 0, 0, stn j) : Cd)] := by simp [A4, List.range_succ]
theorem A5_zero : A5 0 = A4 16 := by simp [A5]
theorem A5_succ (m : Nat) : A5 (m + 1) = A5 m ++ [((3, 0, (m : Int) + 1, 0, false, false) : Cd)] := by simp [A5, List.range_succ]
theorem A6_zero : A6 0 = A5 3 := by simp [A6]
theorem A6_succ (m : Nat) : A6 (m + 1) = A6 m ++ [(((m : Int) + 4, 0, 0, 0, false, false) : Cd)] := by simp [A6, List.range_succ]
theorem A6_ev : A6 11 = ev := by decide +kernel
theorem len1 (k : Nat) : (A1 k).length = 30 * k := by
  induction k with
  | zero => rfl
  | succ k ih =>
    have : A1 (k + 1) = A1 k ++ evrow (k : Int) := by simp [A1, List.range_succ]
    have h2 : (evrow (k : Int)).length = 30 := rfl
    rw [this, List.length_append, ih, h2]; omega
theorem len2 (k j : Nat) : (A2 k j).length = 30 * k + j := by simp [A2, len1]
theorem len3 (k m : Nat) : (A3 k m).length = 30 * k + 16 + 2 * m := by
  induction m with
  | zero => rw [A3_zero, len2]
  | succ m ih => rw [A3_succ, List.length_append, ih]; simp; omega
theorem len4 (j : Nat) : (A4 j).length = 450 + j := by simp [A4, len1]
theorem len5 (j : Nat) : (A5 j).length = 466 + j := by simp [A5, len4]
theorem len6 (j : Nat) : (A6 j).length = 469 + j := by simp [A6, len5]
theorem cvs_append (l m : List Cd) : cvs (l ++ m) = cvs l ++ cvs m := by simp [cvs]
theorem code_step {B : Nat} {v v' : Value} {w W1 w' : World} {l news : List Cd} {n : Nat} {ns : List Value} (hown : W1.ownsRow B 26 6 v n (cvs l)) (hn : n = l.length) (he : cvs news = ns) (hB : Below B w W1) (hz : B ≤ W1.heap.size)
    (h1 : w'.ownsRow B 26 6 v' (n + news.length) (cvs l ++ ns)) (hg : W1.grownBy w' v.ownBlock) : w'.ownsRow B 26 6 v' (l ++ news).length (cvs (l ++ news)) ∧ Below B w w' := by
  subst hn he
  rw [List.length_append, cvs_append]; exact ⟨h1, app_step hown hB hz hg⟩
/-- Rows of two types are two blocks. -/
theorem rows_apart {w : World} {B B' s s' n m : Nat} {v u : Value} {xs ys : List Value} (h : w.ownsRow B 26 s v n xs) (h' : w.ownsRow B' 24 s' u m ys) : u.ownBlock = none ∨ u.ownBlock ≠ v.ownBlock := by
  rcases h'.2 with ⟨rfl, _⟩ | ⟨g', c', cur', rfl, _, hg', _⟩
  · exact Or.inl rfl
  · right
    rcases h.2 with ⟨rfl, _⟩ | ⟨g, c, cur, rfl, _, hg, _⟩
    · simp [Value.ownBlock]
    · simp only [Value.ownBlock, ne_eq, Option.some.injEq]
      intro e; subst e
      rw [hg] at hg'; simp at hg'
theorem svs_get (j : Nat) (h : j < 16) : (svs stys)[j * 3]? = some (.int .u8 (stn j).1) ∧ (svs stys)[j * 3 + 1]? = some (.bool (stn j).2.1) ∧ (svs stys)[j * 3 + 2]? = some (.bool (stn j).2.2) := by
  have : j = 0 ∨ j = 1 ∨ j = 2 ∨ j = 3 ∨ j = 4 ∨ j = 5 ∨ j = 6 ∨ j = 7 ∨ j = 8 ∨ j = 9 ∨ j = 10 ∨ j = 11 ∨ j = 12 ∨ j = 13 ∨ j = 14 ∨ j = 15 := by omega
  rcases this with rfl | rfl | rfl | rfl | rfl | rfl | rfl | rfl | rfl | rfl | rfl | rfl | rfl | rfl | rfl | rfl
  all_goals exact ⟨rfl, rfl, rfl⟩
theorem cvs_get (l : List Cd) : ∀ k (h : k < l.length), (cvs l)[k * 6]? = some (.int .u8 l[k].1) ∧ (cvs l)[k * 6 + 1]? = some (.int .i64 l[k].2.1) ∧ (cvs l)[k * 6 + 2]? = some (.int .i64 l[k].2.2.1) ∧ (cvs l)[k * 6 + 3]? = some (.int .u8 l[k].2.2.2.1) ∧ (cvs l)[k * 6 + 4]? = some (.bool l[k].2.2.2.2.1) ∧ (cvs l)[k * 6 + 5]? = some (.bool l[k].2.2.2.2.2) := by
  induction l with
  | nil => intro k h; cases h
  | cons x l ih =>
    intro k h
    cases k with
    | zero => exact ⟨rfl, rfl, rfl, rfl, rfl, rfl⟩
    | succ k =>
      have := ih k (by simpa using h)
      have e : ∀ i, (cvs (x :: l))[(k + 1) * 6 + i]? = (cvs l)[k * 6 + i]? := by
        intro i
        have : cvs (x :: l) = cvl x ++ cvs l := rfl
        rw [this, List.getElem?_append_right (by simp [cvl]; omega)]
        congr 1; simp [cvl]; omega
      have e0 := e 0
      simp only [Nat.add_zero] at e0
      rw [e0, e 1, e 2, e 3, e 4, e 5]
      simpa using this
theorem own_cell {w : World} {B : Nat} {E : TypeId} {s n cap g : Nat} {xs : List Value} (h : w.ownsRow B E s (.slice (some ⟨g, 0, none⟩) n cap) n xs) {j : Nat} {u : Value} (hu : xs[j]? = some u) : w.cell? ⟨g, j, none⟩ = some u := by
  have := h.cells (g := g) rfl j u hu
  have e : (⟨g, 0, none⟩ : Addr).add j = ⟨g, j, none⟩ := by unfold Addr.add; split <;> simp_all
  rwa [e] at this
theorem own_slice {w : World} {B : Nat} {E : TypeId} {s n : Nat} {v : Value} {xs : List Value} (h : w.ownsRow B E s v n xs) (hn : 0 < n) : ∃ g cap, v = .slice (some ⟨g, 0, none⟩) n cap ∧ n ≤ cap ∧ cap ≤ maxLen ∧ g < w.heap.size ∧ B ≤ g := by
  rcases h.2 with ⟨_, h0⟩ | ⟨g, c, cur, rfl, hb, hg, hc, hm, _⟩
  · omega
  · exact ⟨g, c, rfl, hc, hm, (Array.getElem?_eq_some_iff.1 hg).1, hb⟩
end Go.Proofs.Ytjghleeobdbkgaa
