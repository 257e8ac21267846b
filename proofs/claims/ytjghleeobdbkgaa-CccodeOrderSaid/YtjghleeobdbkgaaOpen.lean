/- How a code that comes in is opened, and what a law owes at its end. -/
import Derived.Test.YtjghleeobdbkgaaRows
import Derived.WalkKit
import Derived.ProofKit
import Derived.OpenShut
import Derived.Carry
namespace Go.Proofs.Ytjghleeobdbkgaa
open Go.ChangeShapes Go.WideShapes Go.ChangeAt Go.RowKit
set_option linter.unusedVariables false
section
variable {H : Type} {enc : TypeId × Value → H} {P : Program}
theorem args_stay (hl : laidOutB P = true) {W W' : World} (hb : Below W.heap.size W W') : ∀ {ts : List TypeId} {vs : List Value} {ds : List (DataW H)} {ps : List MemPlace}, (∀ t ∈ ts, P.readableRec t = true ∧ t < P.types.size) →
    DataW.TrodAll enc P W 0 (fun _ => true) true ts vs ds ps → (∀ x ∈ ps, x.block < W.heap.size) → DataW.TrodAll enc P W' 0 (fun b => decide (b < W.heap.size)) true ts vs ds ps
  | [], [], [], ps, _, h, _ => h
  | t :: ts, v :: vs, d :: ds, ps, hr, ⟨p, q, h1, h2, e⟩, hs =>
    ⟨p, q, Below.trod hl (hr t (by simp)).1 (hr t (by simp)).2 h1 hb (fun x hx => hs x (by rw [e]; exact List.mem_append_left _ hx)),
      args_stay hl hb (fun y hy => hr y (by simp [hy])) h2 (fun x hx => hs x (by rw [e]; exact List.mem_append_right _ hx)), e⟩
/-- What a law owes at its end: it answered true, and what was there before is as it was. -/
theorem law_post {f : Func} {s : ChangeSpec} {apart handsOn : Bool} {W W' : World} {args : Array Value} {ds : List (DataW H)} {before : List MemPlace} {tb : TypeId}
    (hv : s.vars = []) (hl : laidOutB P = true) (hr : ∀ t ∈ f.params.toList, P.readableRec t = true ∧ t < P.types.size) (hrt : f.resultTypes = #[tb]) (htb : P.underlying tb = some .bool)
    (hW : DataW.Whole enc P f.params.toList s.vars apart W args.toList ds [] before) (hb : Below W.heap.size W W')
    (h1 : (s.fn H (ds ++ [])).results = [.lit (.bool true)]) (h2 : (s.fn H (ds ++ [])).args = ds) (h3 : (s.fn H (ds ++ [])).vars = []) : s.post enc P f apart true handsOn false W args (.bool true) W' := by
  have hlt := hW.lt
  have hW2 := hW
  obtain ⟨p, q, hA, hV, rfl, _, _⟩ := hW2
  refine ⟨ds, [], p ++ q, [], p, [], hW, ?_, ?_, ?_, ?_, fun h => by cases h⟩
  · rw [h1, hrt]
    exact ⟨[], [], shut_bool htb true, rfl, rfl⟩
  · rw [h2]
    exact args_stay hl hb hr hA (fun x hx => hlt x (List.mem_append_left _ hx))
  · rw [h3, hv]; exact rfl
  · exact hb.frame _
end
theorem own : ownKnob Try.prog.godebug = none := by kernel_rfl
theorem laidOut : laidOutB Try.prog = true := by kernel_rfl
theorem read26 : Try.prog.readableRec 26 = true ∧ 26 < Try.prog.types.size := ⟨by kernel_rfl, of_decide_eq_true (by kernel_rfl)⟩
theorem read5 : Try.prog.readableRec 5 = true ∧ 5 < Try.prog.types.size := ⟨by kernel_rfl, of_decide_eq_true (by kernel_rfl)⟩
theorem read38 : Try.prog.readableRec 38 = true ∧ 38 < Try.prog.types.size := ⟨by kernel_rfl, of_decide_eq_true (by kernel_rfl)⟩
theorem cells26 : Try.prog.cellsOf 26 = 6 := by kernel_rfl
theorem cells24 : Try.prog.cellsOf 24 = 3 := by kernel_rfl
theorem cells22 : Try.prog.cellsOf 22 = 1 := by kernel_rfl
theorem cells5 : Try.prog.cellsOf 5 = 1 := by kernel_rfl
theorem cells3 : Try.prog.cellsOf 3 = 1 := by kernel_rfl
theorem cells4 : Try.prog.cellsOf 4 = 1 := by kernel_rfl
theorem four {α : Type} {l : List α} (h : l.length = 4) : ∃ a b c d, l = [a, b, c, d] := by
  match l, h with
  | [a, b, c, d], _ => exact ⟨a, b, c, d, rfl⟩
theorem three {α : Type} {l : List α} (h : l.length = 3) : ∃ a b c, l = [a, b, c] := by
  match l, h with
  | [a, b, c], _ => exact ⟨a, b, c, rfl⟩
theorem six {l : List Value} (h : l.length = 6) : ∃ a b c d e f, l = [a, b, c, d, e, f] := by
  match l, h with
  | [a, b, c, d, e, f], _ => exact ⟨a, b, c, d, e, f, rfl⟩
theorem open_code {H : Type} {enc : TypeId × Value → H} {W : World} {base : Nat} {v : Value} {d : DataW H} {p : List MemPlace} {spare : Nat → Bool} {held : Bool} {b0 : Nat}
    (hv : Value.okWide Try.prog W .any b0 26 v) (h : DataW.Trod enc Try.prog W base spare held 26 v d p) :
    ∃ (k r l c : Int) (i u : Bool), v = .agg #[.int .u8 k, .int .i64 r, .int .i64 l, .int .u8 c, .bool i, .bool u] ∧ 0 ≤ c := by
  obtain ⟨cs, rfl, hsz⟩ := okWide_struct Try.underlying26 hv
  rw [cells26] at hsz
  obtain ⟨l⟩ := cs
  obtain ⟨c0, c1, c2, c3, c4, c5, rfl⟩ := six (by simpa using hsz)
  obtain ⟨fuel, hf⟩ := h
  obtain ⟨xs, n, _, _, _, hx, hg⟩ := DataW.trod_struct Try.underlying26 hf
  obtain ⟨y0, y1, y2, y3, rfl⟩ := four hx
  have g0 : DataW.trod enc Try.prog W base spare held n 5 [c0] = some y0 := by simpa [cells5, Value.cells] using hg 0 _ rfl
  have g1 : DataW.trod enc Try.prog W base spare held n 3 [c1] = some y1 := by simpa [cells3, Value.cells] using hg 1 _ rfl
  have g2 : DataW.trod enc Try.prog W base spare held n 3 [c2] = some y2 := by simpa [cells3, Value.cells] using hg 2 _ rfl
  have g3 : DataW.trod enc Try.prog W base spare held n 24 [c3, c4, c5] = some y3 := by simpa [cells24, Value.cells] using hg 3 _ rfl
  obtain ⟨k, e0, _, _⟩ := DataW.trod_int Try.underlying5 g0
  obtain ⟨r, e1, _, _⟩ := DataW.trod_int Try.underlying3 g1
  obtain ⟨l, e2, _, _⟩ := DataW.trod_int Try.underlying3 g2
  obtain ⟨xs, n, _, _, _, hx, hg⟩ := DataW.trod_struct Try.underlying24 g3
  obtain ⟨z0, z1, z2, rfl⟩ := three hx
  have f0 : DataW.trod enc Try.prog W base spare held n 22 [c3] = some z0 := by simpa [cells22, Value.cells] using hg 0 _ rfl
  have f1 : DataW.trod enc Try.prog W base spare held n 4 [c4] = some z1 := by simpa [cells4, Value.cells] using hg 1 _ rfl
  have f2 : DataW.trod enc Try.prog W base spare held n 4 [c5] = some z2 := by simpa [cells4, Value.cells] using hg 2 _ rfl
  obtain ⟨c, e3, _, wc⟩ := DataW.trod_int Try.underlying22 f0
  obtain ⟨i, e4, _⟩ := DataW.trod_bool Try.underlying4 f1
  obtain ⟨u, e5, _⟩ := DataW.trod_bool Try.underlying4 f2
  simp only [List.cons.injEq, and_true] at e0 e1 e2 e3 e4 e5
  subst e0 e1 e2 e3 e4 e5
  exact ⟨k, r, l, c, i, u, rfl, (bounds_u8 wc).1⟩
end Go.Proofs.Ytjghleeobdbkgaa
