/- A slice of tokens that comes in, opened: what its places hold, and how great its texts can be. -/
import Derived.Test.YtheemefggkcfbaaDoorOpen
import Derived.Test.YtheemefggkcfbaaDoorT12
import Derived.Deep.SlicePairs
namespace Go.Proofs.YtheemefggkcfbaaDoor
open Go.ChangeShapes Go.WideShapes Go.ChangeAt Go.RowKit Go.Lib
theorem addr_spot {w : World} {a : Addr} {v : Value} (h : w.cell? a = some v) : ∃ b o, a = ⟨b, o, none⟩ := by
  obtain ⟨b, o, sp⟩ := a
  cases sp with
  | none => exact ⟨b, o, rfl⟩
  | some s =>
    exfalso
    unfold World.cell? at h
    simp only [Option.isSome_some, if_true] at h
    split at h <;> cases h
theorem add_none (b o k : Nat) : (⟨b, o, none⟩ : Addr).add k = ⟨b, o + k, none⟩ := by unfold Addr.add; split <;> simp_all
def tokD {H : Type} (x : List UInt8 × Int) : DataW H := .agg [.lit (.string x.1), .lit (.int .i64 x.2)]
theorem cells9 : Tryd.prog.cellsOf 9 = 1 := by kernel_rfl
theorem cells3 : Tryd.prog.cellsOf 3 = 1 := by kernel_rfl
theorem cells30 : Tryd.prog.cellsOf 30 = 2 := by kernel_rfl
set_option maxRecDepth 100000 in
theorem open_tokens {H : Type} {enc : TypeId × Value → H} {W : World} {base : Nat} {v : Value} {d : DataW H} {p : List MemPlace} {spare : Nat → Bool} {held : Bool} {b0 : Nat}
    (hv : Value.okWide Tryd.prog W .any b0 24 v) (h : DataW.Trod enc Tryd.prog W base spare held 24 v d p) :
    ∃ (a : Option Addr) (n c : Nat) (T : List (List UInt8 × Int)), v = .slice a n c ∧ n = T.length ∧ n ≤ c ∧ RdT W a T ∧ ((T = [] ∧ d = .nil) ∨ ∃ sp, d = .slice (T.map tokD) sp) := by
  obtain ⟨a0, len, cap, rfl⟩ := okWide_slice Tryd.underlying24 hv
  obtain ⟨fuel, hf⟩ := h
  rcases Go.Deep.open_slice_pairs Tryd.underlying24 Tryd.underlying30 cells30 rfl rfl cells9 cells3 hf with ⟨h1, h2⟩ | ⟨a, ln, cp, m, n, V0, V1, D0, D1, P0, P1, h1, hb, hl, hm, hmm, hx, hi⟩
  · simp only [Value.cells, List.cons.injEq, and_true] at h1
    obtain ⟨rfl, rfl, rfl⟩ : a0 = none ∧ len = 0 ∧ cap = 0 := by cases h1; exact ⟨rfl, rfl, rfl⟩
    simp only [Prod.mk.injEq] at h2
    exact ⟨none, 0, 0, [], rfl, rfl, Nat.le_refl _, RdT.nil _ _, Or.inl ⟨rfl, h2.1⟩⟩
  · simp only [Value.cells, List.cons.injEq, and_true] at h1
    obtain ⟨rfl, rfl, rfl⟩ : a0 = some a ∧ len = ln ∧ cap = cp := by cases h1; exact ⟨rfl, rfl, rfl⟩
    have hlm : len ≤ m := by rw [hmm]; split <;> omega
    have each : ∀ i, i < m → ∃ x : List UInt8 × Int, V0 i = strV x.1 ∧ V1 i = .int .i64 x.2 ∧ D0 i = .lit (.string x.1) ∧ D1 i = .lit (.int .i64 x.2) := by
      intro i him
      obtain ⟨_, _, t0, t1⟩ := hi i him
      obtain ⟨s, e1, e2, _⟩ := DataW.trod_string Tryd.underlying9 t0
      obtain ⟨k, e3, e4, _⟩ := DataW.trod_int Tryd.underlying3 t1
      simp only [List.cons.injEq, and_true, Prod.mk.injEq] at e1 e2 e3 e4
      exact ⟨(s.data.toList, k), e1.trans (strV_list s).symm, e3, e2.1, e4.1⟩
    obtain ⟨f, hf'⟩ := Go.Deep.choose_lt each
    refine ⟨some a, len, cap, (List.range len).map f, rfl, by simp, hl, ?_, Or.inr ?_⟩
    · intro i hi'
      have hil : i < len := by simpa using hi'
      obtain ⟨c0, c1, _, _⟩ := hi i (by omega)
      obtain ⟨z0, _, _, _⟩ := hi 0 (by omega)
      obtain ⟨b, o, hbo⟩ := addr_spot (show W.cell? a = _ by simpa [Addr.add] using z0)
      subst hbo
      obtain ⟨v0, v1, _, _⟩ := hf' i (by omega)
      rw [add_none] at c0 c1
      refine ⟨b, o, rfl, cell_lt c0, ?_, ?_⟩
      · rw [c0, v0]; simp
      · rw [show o + i * 2 + 1 = o + (i * 2 + 1) by omega, c1, v1]; simp
    · have hd : d = (.slice ((List.range len).map fun i => .agg [D0 i, D1 i]) ((List.range (m - len)).map fun j => .agg [D0 (len + j), D1 (len + j)])) := by
        have := congrArg Prod.fst hx
        exact this
      rw [hd]
      refine ⟨((List.range (m - len)).map fun j => .agg [D0 (len + j), D1 (len + j)]), ?_⟩
      congr 1
      rw [List.map_map]
      apply List.map_congr_left
      intro i hir
      have him : i < m := by have := List.mem_range.1 hir; omega
      obtain ⟨_, _, d0, d1⟩ := hf' i him
      rw [d0, d1]; rfl
theorem mem_weightsAll {H : Type} {P : Program} {e : TypeId} : ∀ {l : List (DataW H)} {d : DataW H} {n : Nat}, d ∈ l → n ∈ d.weights P e → n ∈ DataW.weightsAll P e l
  | x :: r, d, n, hd, hn => by
    simp only [DataW.weightsAll, List.mem_append]
    rcases List.mem_cons.1 hd with h | h
    · subst h; exact Or.inl hn
    · exact Or.inr (mem_weightsAll h hn)
set_option maxRecDepth 100000 in
theorem sized_tokens {H : Type} {ts : List TypeId} {T : List (List UInt8 × Int)} {sp : List (DataW H)} {ds : List (DataW H)}
    (h : (DataW.weightsEach Tryd.prog (24 :: ts) (.slice (T.map tokD) sp :: ds)).all (· ≤ reachBytes) = true) : ∀ x ∈ T, x.1.length ≤ reachBytes := by
  intro x hx
  rw [List.all_eq_true] at h
  have h1 := h x.1.length (by
    simp only [DataW.weightsEach, List.mem_append]
    left
    rw [DataW.weights]
    simp only [Tryd.underlying24, List.mem_cons, List.mem_append]
    right; left
    refine mem_weightsAll (d := tokD x) (List.mem_map_of_mem hx) ?_
    unfold tokD
    rw [DataW.weights]
    simp only [Tryd.underlying30]
    simp [DataW.weightsEach, DataW.weights])
  simpa using h1
end Go.Proofs.YtheemefggkcfbaaDoor
