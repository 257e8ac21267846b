import Derived.Test.YtheemefggkcfbaaDoorR16
import Derived.Deep.AppendLies
import Derived.Deep.Onto
namespace Go.Proofs.YtheemefggkcfbaaDoor
open Go Go.Lib Go.RowKit Go.Shelf
/-! ### what a speaker is, and where it lies -/
/-- A spoken word: its text, whether it begins a row, whether it was corrected. -/
abbrev Spk := List UInt8 × Bool × Bool
def scell (x : Spk) : List Value := [strV x.1, .bool x.2.1, .bool x.2.2]
def scells : List Spk → List Value
  | [] => []
  | x :: t => scell x ++ scells t
theorem scells_app : ∀ a b : List Spk, scells (a ++ b) = scells a ++ scells b
  | [], b => rfl
  | x :: t, b => by rw [List.cons_append]; simp [scells, scells_app t b]
theorem scells_len : ∀ l : List Spk, (scells l).length = l.length * 3
  | [] => rfl
  | x :: t => by simp [scells, scell, scells_len t]; omega
theorem scells_take : ∀ (l : List Spk) (k : Nat), (scells l).take (k * 3) = scells (l.take k)
  | [], k => by simp [scells]
  | x :: t, 0 => by simp [scells]
  | x :: t, k + 1 => by
    have hl : (scell x).length = 3 := rfl
    rw [show (k + 1) * 3 = 3 + k * 3 by omega, List.take_succ_cons, scells, scells, List.take_append, hl, Nat.add_sub_cancel_left, scells_take t k, List.take_of_length_le (by rw [hl]; omega)]
theorem scells_drop : ∀ (l : List Spk) (k : Nat), (scells l).drop (k * 3) = scells (l.drop k)
  | [], k => by simp [scells]
  | x :: t, 0 => by simp [scells]
  | x :: t, k + 1 => by
    rw [show (k + 1) * 3 = 3 + k * 3 by omega, List.drop_succ_cons, scells, ← scells_drop t k, ← List.drop_drop]
    simp [scell]
theorem scells_get (l : List Spk) (i : Nat) (h : i < l.length) : (scells l)[i * 3]? = some (strV (l.getD i default).1) ∧ (scells l)[i * 3 + 1]? = some (.bool (l.getD i default).2.1) ∧ (scells l)[i * 3 + 2]? = some (.bool (l.getD i default).2.2) := by
  have hd := scells_drop l i
  rw [List.drop_eq_getElem_cons h] at hd
  have e : ∀ j, (scells l)[i * 3 + j]? = (scell l[i] ++ scells (l.drop (i + 1)))[j]? := by
    intro j
    rw [← List.getElem?_drop, hd]; rfl
  have g : l.getD i default = l[i] := by rw [List.getD_eq_getElem?_getD, List.getElem?_eq_getElem h]; rfl
  rw [g]
  refine ⟨by have := e 0; simpa [scell] using this, by have := e 1; simpa [scell] using this, by have := e 2; simpa [scell] using this⟩
structure Sp where
  hold : Nat
  opn : List Spk
  mark : Bool
  free : Nat
  tkn : List (List UInt8)
  brk : Bool
def spc (h : Nat) (vo : Value) (m : Bool) (f : Nat) (vt : Value) (b : Bool) : Array Value := #[.int .i64 h, vo, .bool m, .int .i64 f, vt, .bool b]
/-- A speaker in a world: its block, and the rows of its two lists; all of it lies in O. -/
def SpAt (w : World) (O : Nat → Prop) (b : Nat) (S : Sp) : Prop :=
  ∃ vo vt, w.heap[b]? = some (.cells (spc S.hold vo S.mark S.free vt S.brk) 88 (0, 0)) ∧ w.ownsRow 0 59 3 vo S.opn.length (scells S.opn) ∧ w.ownsRow 0 9 1 vt S.tkn.length (wcells S.tkn) ∧ O b ∧ (∀ k, vo.ownBlock = some k → O k) ∧ (∀ k, vt.ownBlock = some k → O k)
/-- Only what lies in O has turned. -/
structure Within (O : Nat → Prop) (w w' : World) : Prop where
  os : w'.os = w.os
  tape : w'.tape = w.tape
  output : w'.output = w.output
  size : w.heap.size ≤ w'.heap.size
  block : ∀ k, k < w.heap.size → ¬ O k → w'.heap[k]? = w.heap[k]?
/-- What was owned, and what was made meanwhile. -/
def grow (O : Nat → Prop) (w w' : World) : Nat → Prop := fun k => O k ∨ (w.heap.size ≤ k ∧ k < w'.heap.size)
theorem Within.refl (O : Nat → Prop) (w : World) : Within O w w := ⟨rfl, rfl, rfl, Nat.le_refl _, fun _ _ _ => rfl⟩
theorem Within.of_below {O : Nat → Prop} {w w' : World} (h : Below w.heap.size w w') : Within O w w' := ⟨h.os, h.tape, h.output, h.size, fun k hk _ => h.block k hk⟩
theorem Within.trans {O : Nat → Prop} {a b c : World} (h : Within O a b) (k : Within (grow O a b) b c) : Within O a c :=
  ⟨k.os.trans h.os, k.tape.trans h.tape, k.output.trans h.output, Nat.le_trans h.size k.size, fun j hj ho => (k.block j (Nat.lt_of_lt_of_le hj h.size) (by rintro (e | e); exact ho e; omega)).trans (h.block j hj ho)⟩
theorem Within.below {O : Nat → Prop} {B : Nat} {a w w' : World} (h : Below B a w) (k : Within O w w') (hz : B ≤ w.heap.size) (hO : ∀ k, O k → B ≤ k) : Below B a w' :=
  h.trans ⟨k.os, k.tape, k.output, k.size, fun j hj => k.block j (by omega) (fun e => by have := hO j e; omega)⟩
theorem grow_base {O : Nat → Prop} {B : Nat} {w w' : World} (hO : ∀ k, O k → B ≤ k) (hz : B ≤ w.heap.size) : ∀ k, grow O w w' k → B ≤ k := by
  rintro k (h | h)
  · exact hO k h
  · omega
theorem grow_grow {O : Nat → Prop} {a b c : World} (hab : a.heap.size ≤ b.heap.size) (hbc : b.heap.size ≤ c.heap.size) {k : Nat} (h : grow (grow O a b) b c k) : grow O a c k := by
  rcases h with (h | h) | h
  · exact Or.inl h
  · exact Or.inr ⟨h.1, by omega⟩
  · exact Or.inr ⟨by omega, h.2⟩
theorem SpAt.weaken {w : World} {O O' : Nat → Prop} {b : Nat} {S : Sp} (h : SpAt w O b S) (hO : ∀ k, O k → O' k) : SpAt w O' b S := by
  obtain ⟨vo, vt, h1, h2, h3, h4, h5, h6⟩ := h
  exact ⟨vo, vt, h1, h2, h3, hO _ h4, fun k hk => hO _ (h5 k hk), fun k hk => hO _ (h6 k hk)⟩
theorem SpAt.below {w w' : World} {O : Nat → Prop} {b : Nat} {S : Sp} (h : SpAt w O b S) (hb : Below w.heap.size w w') : SpAt w' O b S := by
  obtain ⟨vo, vt, h1, h2, h3, h4, h5, h6⟩ := h
  exact ⟨vo, vt, by rw [hb.block _ (heap_lt h1)]; exact h1, own_stays h2 hb, own_stays h3 hb, h4, h5, h6⟩
theorem SpAt.lt {w : World} {O : Nat → Prop} {b : Nat} {S : Sp} (h : SpAt w O b S) : b < w.heap.size := by
  obtain ⟨vo, vt, h1, _⟩ := h
  exact heap_lt h1
/-- A row that is read: a slice's elements, wherever it begins. -/
def RowR (w : World) (size : Nat) (v : Value) (n : Nat) (xs : List Value) : Prop :=
  xs.length = n * size ∧ ((v = .slice none 0 0 ∧ n = 0) ∨ ∃ g off cap, v = .slice (some ⟨g, off, none⟩) n cap ∧ g < w.heap.size ∧ n ≤ cap ∧ ∀ j u, xs[j]? = some u → w.cell? ⟨g, off + j, none⟩ = some u)
theorem RowR.of_own {w : World} {B : Nat} {e : TypeId} {size n : Nat} {v : Value} {xs : List Value} (h : w.ownsRow B e size v n xs) : RowR w size v n xs := by
  refine ⟨h.1, ?_⟩
  rcases h.2 with h2 | ⟨g, cap, cur, rfl, hb, hg, hc, hm, hs, hx⟩
  · exact Or.inl h2
  · refine Or.inr ⟨g, 0, cap, rfl, heap_lt hg, hc, fun j u hu => ?_⟩
    have h1 := h.cells (g := g) rfl j u hu
    have e : (⟨g, 0, none⟩ : Addr).add j = ⟨g, 0 + j, none⟩ := by unfold Addr.add; split <;> simp_all
    rwa [e] at h1
theorem RowR.below {w w' : World} {size n : Nat} {v : Value} {xs : List Value} (h : RowR w size v n xs) (hb : Below w.heap.size w w') : RowR w' size v n xs := by
  refine ⟨h.1, ?_⟩
  rcases h.2 with h2 | ⟨g, off, cap, rfl, hg, hc, hx⟩
  · exact Or.inl h2
  · exact Or.inr ⟨g, off, cap, rfl, by have := hb.size; omega, hc, fun j u hu => (hb.cell (p := ⟨g, off + j, none⟩) hg).trans (hx j u hu)⟩
theorem blk_facts {w : World} {b : Nat} {a0 a1 a2 a3 a4 a5 : Value} {E : TypeId} (h : w.heap[b]? = some (.cells #[a0, a1, a2, a3, a4, a5] E (0, 0))) :
    w.cell? ⟨b, 0, none⟩ = some a0 ∧ w.cell? ⟨b, 1, none⟩ = some a1 ∧ w.cell? ⟨b, 2, none⟩ = some a2 ∧ w.cell? ⟨b, 3, none⟩ = some a3 ∧ w.cell? ⟨b, 4, none⟩ = some a4 ∧ w.cell? ⟨b, 5, none⟩ = some a5 ∧ (∀ o, w.frozen? ⟨b, o, none⟩ = false) ∧ b < w.heap.size := by
  refine ⟨?_, ?_, ?_, ?_, ?_, ?_, fun o => ?_, heap_lt h⟩
  all_goals simp [World.cell?, World.frozen?, h]
theorem blk_set {w : World} {b o : Nat} {cs : Array Value} {E : TypeId} {u : Value} (h : w.heap[b]? = some (.cells cs E (0, 0))) : (w.setCell ⟨b, o, none⟩ u).heap[b]? = some (.cells (cs.setIfInBounds o u) E (0, 0)) :=
  heap_setCell_same w b o cs E u h
/-- A row lies in another block than a speaker's own. -/
theorem row_far {w : World} {b B size n o : Nat} {E E' : TypeId} {v u : Value} {cs : Array Value} {xs : List Value} (hE : E ≠ E') (h : w.heap[b]? = some (.cells cs E (0, 0))) (ho : w.ownsRow B E' size v n xs) : (w.setCell ⟨b, o, none⟩ u).ownsRow B E' size v n xs := by
  refine ⟨ho.1, ?_⟩
  rcases ho.2 with h2 | ⟨g, cap, cur, rfl, hb, hg, rest⟩
  · exact Or.inl h2
  · refine Or.inr ⟨g, cap, cur, rfl, hb, ?_, rest⟩
    rw [heap_setCell_other w ⟨b, o, none⟩ g u (by
      intro e
      subst e
      rw [hg] at h
      injection h with h
      injection h with _ h _
      exact hE h.symm)]
    exact hg
theorem Within.set {O : Nat → Prop} {a w : World} {b o : Nat} {u : Value} (h : Within O a w) (hb : O b) : Within O a (w.setCell ⟨b, o, none⟩ u) :=
  ⟨h.os, h.tape, h.output, by simpa using h.size, fun k hk hn => by
    rw [heap_setCell_other w ⟨b, o, none⟩ k u (fun e => hn (by rw [e]; exact hb))]
    exact h.block k hk hn⟩
end Go.Proofs.YtheemefggkcfbaaDoor
