/- A code in a block of its own: its six cells, carried from world to world. -/
import Derived.Test.YtjghleeobdbkgaaPre
namespace Go.Proofs.Ytjghleeobdbkgaa
open Go.RowKit Pl
set_option linter.unusedVariables false
theorem getV_some (k r l c : Int) (i u : Bool) : getV (some (k, r, l, c, i, u)) = .tuple #[.agg #[.int .u8 k, .int .i64 r, .int .i64 l, .int .u8 c, .bool i, .bool u], .bool true] := rfl
theorem getV_none : getV none = .tuple #[.agg #[.int .u8 0, .int .i64 0, .int .i64 0, .int .u8 0, .bool false, .bool false], .bool false] := rfl
theorem putV_eq {k r l c a b e : Int} {i u : Bool} (h : Pl.put (k, r, l, c, i, u) = (a, b, e)) : putV (k, r, l, c, i, u) = .tuple #[.int .u8 a, .int .u8 b, .int .i64 e] := by unfold putV; rw [h]
theorem cv_eq (k r l c : Int) (i u : Bool) : cv (k, r, l, c, i, u) = .agg #[.int .u8 k, .int .i64 r, .int .i64 l, .int .u8 c, .bool i, .bool u] := rfl

def Row6 (W : World) (b : Nat) (v0 v1 v2 v3 v4 v5 : Value) : Prop :=
  W.cell? ⟨b, 0, none⟩ = some v0 ∧ W.cell? ⟨b, 1, none⟩ = some v1 ∧ W.cell? ⟨b, 2, none⟩ = some v2 ∧ W.cell? ⟨b, 3, none⟩ = some v3 ∧ W.cell? ⟨b, 4, none⟩ = some v4 ∧ W.cell? ⟨b, 5, none⟩ = some v5 ∧ (∀ o, W.frozen? ⟨b, o, none⟩ = false) ∧ b < W.heap.size
theorem Row6.out {W : World} {b : Nat} {v0 v1 v2 v3 v4 v5 : Value} (h : Row6 W b v0 v1 v2 v3 v4 v5) :
    W.cell? ⟨b, 0, none⟩ = some v0 ∧ W.cell? ⟨b, 1, none⟩ = some v1 ∧ W.cell? ⟨b, 2, none⟩ = some v2 ∧ W.cell? ⟨b, 3, none⟩ = some v3 ∧ W.cell? ⟨b, 4, none⟩ = some v4 ∧ W.cell? ⟨b, 5, none⟩ = some v5 ∧ (∀ o, W.frozen? ⟨b, o, none⟩ = false) ∧ b < W.heap.size := h
theorem Row6.lt {W : World} {b : Nat} {v0 v1 v2 v3 v4 v5 : Value} (h : Row6 W b v0 v1 v2 v3 v4 v5) : b < W.heap.size := h.2.2.2.2.2.2.2
theorem Row6.step {W W' : World} {b : Nat} {v0 v1 v2 v3 v4 v5 : Value} (h : Row6 W b v0 v1 v2 v3 v4 v5) (hb : Below W.heap.size W W') : Row6 W' b v0 v1 v2 v3 v4 v5 := by
  obtain ⟨h0, h1, h2, h3, h4, h5, hf, hl⟩ := h
  exact ⟨(hb.cell (p := ⟨b, 0, none⟩) hl).trans h0, (hb.cell (p := ⟨b, 1, none⟩) hl).trans h1, (hb.cell (p := ⟨b, 2, none⟩) hl).trans h2, (hb.cell (p := ⟨b, 3, none⟩) hl).trans h3, (hb.cell (p := ⟨b, 4, none⟩) hl).trans h4, (hb.cell (p := ⟨b, 5, none⟩) hl).trans h5, fun o => (hb.frozen (p := ⟨b, o, none⟩) hl).trans (hf o), Nat.lt_of_lt_of_le hl hb.size⟩
theorem Row6.new (W : World) (v0 v1 v2 v3 v4 v5 : Value) (T : TypeId) : Row6 (W.alloc (.cells #[v0, v1, v2, v3, v4, v5] T)) W.heap.size v0 v1 v2 v3 v4 v5 := by
  refine ⟨?_, ?_, ?_, ?_, ?_, ?_, ?_, ?_⟩
  iterate 6 (rw [World.cell?_alloc_new]; rfl)
  · intro o; simp [go_sem]
  · simp
theorem newWorld (W : World) (o : Obj) : ∃ W2, W2 = W.alloc o ∧ Below W.heap.size W W2 := ⟨_, rfl, below1 _ (Nat.le_refl _)⟩
end Go.Proofs.Ytjghleeobdbkgaa
