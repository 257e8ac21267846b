import Derived.Test.YtheemefggkcfbaaDoorMO
import Derived.Lib.SmallJoins
/- An act that comes in by value, opened. -/
namespace Go.Proofs.YtheemefggkcfbaaDoor
open Go.ChangeShapes Go.WideShapes Go.ChangeAt Go.RowKit Go.Lib
set_option maxRecDepth 100000 in
theorem open_actV {H : Type} {enc : TypeId × Value → H} {W : World} {base : Nat} {v : Value} {d : DataW H} {p : List MemPlace} {spare : Nat → Bool} {held : Bool} {b0 : Nat}
    (hv : Value.okWide Tryd.prog W .any b0 57 v) (h : DataW.Trod enc Tryd.prog W base spare held 57 v d p) :
    ∃ (k : Nat) (n : Int) (s : ByteArray), v = .agg #[.int .u8 k, .int .i64 n, .string s] ∧ k < 256 ∧ s.size ≤ 9223372036854775807 := by
  obtain ⟨v0, v1, v2, y0, y1, y2, m, rfl, _, _, h0, h1, h2⟩ := Go.Joins.open_agg3 Tryd.underlying57 (by kernel_rfl) cell57 hv h
  obtain ⟨k, e0, _, w0⟩ := DataW.trod_int Tryd.underlying5 h0
  obtain ⟨n, e1, _, _⟩ := DataW.trod_int Tryd.underlying3 h1
  obtain ⟨s, e2, _, hs⟩ := DataW.trod_string Tryd.underlying9 h2
  obtain ⟨k', rfl, hk⟩ := byte_in w0
  simp only [List.cons.injEq, and_true] at e0 e1 e2
  subst e0 e1 e2
  unfold maxLen at hs
  exact ⟨k', n, s, rfl, hk, hs⟩
end Go.Proofs.YtheemefggkcfbaaDoor
