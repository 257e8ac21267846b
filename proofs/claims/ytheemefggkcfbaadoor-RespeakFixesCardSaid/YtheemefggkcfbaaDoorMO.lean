import Derived.Test.YtheemefggkcfbaaDoorMA
import Derived.Test.YtheemefggkcfbaaDoorCards
import Derived.Test.YtheemefggkcfbaaDoorTie
import Derived.ProofKit
import Derived.OpenShut
import Derived.Carry
import Derived.SizedLaws
import Derived.Lib.LaidU8T
import Derived.Deep.DeepHandedRow
import Derived.Shelf.Vars
import Derived.SevenTiedAt
import Derived.Test.YtheemefggkcfbaaDoorMC
import Derived.Test.YtheemefggkcfbaaDoorMD
import Derived.Deep.Strs
import Derived.Deep.Slices
/- What a law owes at its end, what the laid variables give, and a world that holds them. -/
namespace Go.Proofs.YtheemefggkcfbaaDoor
open Go.ChangeShapes Go.WideShapes Go.ChangeAt Go.RowKit Go.Lib
set_option linter.unusedVariables false
section
variable {H : Type} {enc : TypeId × Value → H} {P : Program}
theorem args_stay (hl : laidOutB P = true) {W W' : World} (hb : Below W.heap.size W W') : ∀ {ts : List TypeId} {vs : List Value} {ds : List (DataW H)} {ps : List MemPlace}, (∀ t ∈ ts, P.readableRec t = true ∧ t < P.types.size) →
    DataW.TrodAll enc P W 0 (fun _ => true) true ts vs ds ps → (∀ x ∈ ps, x.block < W.heap.size) → DataW.TrodAll enc P W' 0 (fun b => decide (b < W.heap.size)) true ts vs ds ps
  | [], [], [], ps, _, h, _ => h
  | t :: ts, v :: vs, d :: ds, ps, hr, ⟨p, q, h1, h2, e⟩, hs =>
    ⟨p, q, Below.trod hl (hr t (by simp)).1 (hr t (by simp)).2 h1 hb (fun x hx => hs x (by rw [e]; exact List.mem_append_left _ hx)),
      args_stay hl hb (fun y hy => hr y (by simp [hy])) h2 (fun x hx => hs x (by rw [e]; exact List.mem_append_right _ hx)), e⟩
/-- What a law owes at its end: it answered true, and what was there before is as it was. -/
theorem law_post {f : Func} {s : ChangeSpec} {apart handsOn : Bool} {W W' : World} {args : Array Value} {ds : List (DataW H)} {before : List MemPlace} {tb : TypeId}
    (hv : s.vars = []) (hl : laidOutB P = true) (hr : ∀ t ∈ f.params.toList, P.readableRec t = true ∧ t < P.types.size) (hrt : f.resultTypes = #[tb]) (htb : P.underlying tb = some .bool)
    (hW : DataW.Whole enc P f.params.toList s.vars apart W args.toList ds [] before) (hb : Below W.heap.size W W')
    (h1 : (s.fn H (ds ++ [])).results = [.lit (.bool true)]) (h2 : (s.fn H (ds ++ [])).args = ds) (h3 : (s.fn H (ds ++ [])).vars = []) : s.post enc P f apart true handsOn false W args (.bool true) W' := by
  have hlt := hW.lt
  have hW2 := hW
  obtain ⟨p, q, hA, hV, rfl, _, _⟩ := hW2
  refine ⟨ds, [], p ++ q, [], p, [], hW, ?_, ?_, ?_, ?_, fun h => by cases h⟩
  · rw [h1, hrt]
    exact ⟨[], [], shut_bool htb true, rfl, rfl⟩
  · rw [h2]
    exact args_stay hl hb hr hA (fun x hx => hlt x (List.mem_append_left _ hx))
  · rw [h3, hv]; exact rfl
  · exact hb.frame _
end
theorem own : ownKnob Tryd.prog.godebug = none := by kernel_rfl
theorem laidOut : laidOutB Tryd.prog = true := by kernel_rfl
theorem read9 : Tryd.prog.readableRec 9 = true ∧ 9 < Tryd.prog.types.size := ⟨by kernel_rfl, of_decide_eq_true (by kernel_rfl)⟩
theorem read4 : Tryd.prog.readableRec 4 = true ∧ 4 < Tryd.prog.types.size := ⟨by kernel_rfl, of_decide_eq_true (by kernel_rfl)⟩
theorem read3 : Tryd.prog.readableRec 3 = true ∧ 3 < Tryd.prog.types.size := ⟨by kernel_rfl, of_decide_eq_true (by kernel_rfl)⟩
theorem read24 : Tryd.prog.readableRec 24 = true ∧ 24 < Tryd.prog.types.size := ⟨by kernel_rfl, of_decide_eq_true (by kernel_rfl)⟩
theorem u8extra : U8Extra Tryd.prog Tryd.lays196_ren := ⟨by kernel_rfl, by kernel_rfl, by kernel_rfl, by kernel_rfl, by kernel_rfl, by kernel_rfl, by kernel_rfl⟩
theorem accept_eq : Rows.laid_unicode_utf8_acceptRanges (H := Unit) = Lib.acceptData := by kernel_rfl
theorem first_eq : Rows.laid_unicode_utf8_first = Lib.firstData := by kernel_rfl
/-- The variables that the row lists, and the machine's limit. -/
theorem env_of {W : World} {l : List (String × DataW Unit)} (h : laidMet Tryd.prog l W) (hs : W.ShapedOpen Tryd.prog)
    (h1 : ("unicode/utf8.acceptRanges", Rows.laid_unicode_utf8_acceptRanges) ∈ l) (h2 : ("unicode/utf8.first", Rows.laid_unicode_utf8_first) ∈ l) : Env W := by
  have r1 := Lib.laidMet.reads h h1
  have r2 := Lib.laidMet.reads h h2
  rw [accept_eq] at r1
  rw [first_eq] at r2
  exact ⟨utf8Tabs_of_readsT (U8Types.of196 Tryd.lays196) u8extra r2 r1,
    cell_of_shapedOpen_int (P := Tryd.prog) (g := 4) (t := 3) (zero := #[.int .i64 0]) hs (of_decide_eq_true (by kernel_rfl)) (by kernel_rfl) rfl (by kernel_rfl) (by kernel_rfl) Tryd.underlying3⟩
theorem reach_le : reachBytes ≤ 140737488355328 := by decide
set_option maxRecDepth 10000 in
theorem size_lt {s : ByteArray} (h : s.size ≤ reachBytes) : s.size < 9223372036854775807 := by
  have h2 := Nat.le_trans h reach_le
  omega
/-- A world for the witness: the two tables hold what their initialisers lay. -/
noncomputable def laidWorld (os : Os) : World :=
  let w0 := World.holding Tryd.prog os ⟨#[], #[], []⟩
  let put (h : Array Obj) (g : Nat) (cs : Array Value) : Array Obj := h.modify g fun
    | .cells _ t frozen => .cells cs t frozen
    | o => o
  let h1 := put w0.heap 1 (Lib.firstTab.map fun z => Value.int .u8 z).toArray
  let h2 := put h1 2 ((List.range 16).flatMap fun i => [Value.int .u8 (Lib.accLo i), Value.int .u8 (Lib.accHi i)]).toArray
  { w0 with heap := h2 }
theorem sized_here {H : Type} {P : Program} {t : TypeId} {ts : List TypeId} {b : List UInt8} {ds : List (DataW H)} (h : (DataW.weightsEach P (t :: ts) (.lit (.string b) :: ds)).all (· ≤ reachBytes) = true) : b.length ≤ reachBytes :=
  sized_string h (j := 0) rfl rfl
theorem sized_next {H : Type} {P : Program} {t : TypeId} {ts : List TypeId} {d : DataW H} {ds : List (DataW H)} (h : (DataW.weightsEach P (t :: ts) (d :: ds)).all (· ≤ reachBytes) = true) : (DataW.weightsEach P ts ds).all (· ≤ reachBytes) = true := by
  rw [List.all_eq_true] at h ⊢
  intro x hx
  exact h x (by simp only [DataW.weightsEach, List.mem_append]; exact Or.inr hx)
def laid2 : List (String × DataW Unit) := [("unicode/utf8.acceptRanges", Rows.laid_unicode_utf8_acceptRanges), ("unicode/utf8.first", Rows.laid_unicode_utf8_first)]
set_option maxRecDepth 100000 in
theorem met2 (os : Os) (args : Array Value) : laidMet Tryd.prog laid2 ((laidWorld os).forCall (fun _ _ => 0) ⟨#[], args, []⟩).memory :=
  laidMet_of_run' 8 (by kernel_rfl) (by kernel_rfl)
theorem vars2 (os : Os) (args : Array Value) : ((laidWorld os).forCall (fun _ _ => 0) ⟨#[], args, []⟩).variablesB Tryd.prog = true := by kernel_rfl
theorem rest2 (os : Os) (args : Array Value) : (((laidWorld os).forCall (fun _ _ => 0) ⟨#[], args, []⟩).heap.toList.drop Tryd.prog.globals.size).take ((begin Tryd.prog (fun _ _ => 0) default).world.heap.size - Tryd.prog.globals.size) =
      (begin Tryd.prog (fun _ _ => 0) default).world.heap.toList.drop Tryd.prog.globals.size := by kernel_rfl
end Go.Proofs.YtheemefggkcfbaaDoor
namespace Go.Proofs.YtheemefggkcfbaaDoor
open Go Go.Lib Go.RowKit Go.Shelf
/-! ### what is done with a speaker -/
abbrev Ac := Nat × Int × List UInt8
def Sp.act (S : Sp) (r : Nat) (n : Int) (l : List UInt8) : Sp :=
  if r < 3 then (S.say l).1 else if r = 3 then { S with brk := true } else if r < 6 then (S.fix n l).1 else if r = 6 then { S with free := S.opn.length } else S.take
theorem act_ok {S : Sp} (h : S.ok) (r : Nat) (n : Int) (l : List UInt8) : (S.act r n l).ok := by
  unfold Sp.act
  split
  · exact say_ok h l
  split
  · exact break_ok h
  split
  · exact fix_ok h n l
  split
  · exact flush_ok h
  · exact take_ok h
end Go.Proofs.YtheemefggkcfbaaDoor
namespace Go.Proofs.YtheemefggkcfbaaDoor
open Go Go.Lib Go.RowKit Go.Shelf
/-! ### acts, as they lie in a slice -/
def acell (x : Ac) : List Value := [.int .u8 x.1, .int .i64 x.2.1, strV x.2.2]
def acells : List Ac → List Value
  | [] => []
  | x :: t => acell x ++ acells t
theorem acells_len : ∀ l : List Ac, (acells l).length = l.length * 3
  | [] => rfl
  | x :: t => by simp [acells, acell, acells_len t]; omega
theorem acells_drop : ∀ (l : List Ac) (k : Nat), (acells l).drop (k * 3) = acells (l.drop k)
  | [], k => by simp [acells]
  | x :: t, 0 => by simp [acells]
  | x :: t, k + 1 => by
    rw [show (k + 1) * 3 = 3 + k * 3 by omega, List.drop_succ_cons, acells, ← acells_drop t k, ← List.drop_drop]
    simp [acell]
theorem acells_get (l : List Ac) (i : Nat) (h : i < l.length) : (acells l)[i * 3]? = some (.int .u8 (l.getD i default).1) ∧ (acells l)[i * 3 + 1]? = some (.int .i64 (l.getD i default).2.1) ∧ (acells l)[i * 3 + 2]? = some (strV (l.getD i default).2.2) := by
  have hd := acells_drop l i
  rw [List.drop_eq_getElem_cons h] at hd
  have e : ∀ j, (acells l)[i * 3 + j]? = (acell l[i] ++ acells (l.drop (i + 1)))[j]? := by
    intro j
    rw [← List.getElem?_drop, hd]; rfl
  have g : l.getD i default = l[i] := by rw [List.getD_eq_getElem?_getD, List.getElem?_eq_getElem h]; rfl
  rw [g]
  refine ⟨by have := e 0; simpa [acell] using this, by have := e 1; simpa [acell] using this, by have := e 2; simpa [acell] using this⟩
theorem RowR.atA {w : World} {n g off cap : Nat} {l : List Ac} (h : RowR w 3 (.slice (some ⟨g, off, none⟩) n cap) l.length (acells l)) (i : Nat) (hi : i < l.length) :
    w.cell? ⟨g, off + i * 3, none⟩ = some (.int .u8 (l.getD i default).1) ∧ w.cell? ⟨g, off + (i * 3 + 1), none⟩ = some (.int .i64 (l.getD i default).2.1) ∧ w.cell? ⟨g, off + (i * 3 + 2), none⟩ = some (.string (ba (l.getD i default).2.2)) := by
  obtain ⟨e0, e1, e2⟩ := acells_get l i hi
  rcases h.2 with ⟨e, _⟩ | ⟨g', off', cap', e, hg, hc, hx⟩
  · cases e
  · injection e with ea _ _
    injection ea with ea
    injection ea with ea1 ea2
    subst ea1 ea2
    exact ⟨hx _ _ e0, hx _ _ e1, hx _ _ e2⟩
end Go.Proofs.YtheemefggkcfbaaDoor
/- What comes in, opened: a slice of strings; an act; a slice of acts. -/
namespace Go.Proofs.YtheemefggkcfbaaDoor
open Go.ChangeShapes Go.WideShapes Go.ChangeAt Go.RowKit Go.Lib
theorem read42 : Tryd.prog.readableRec 42 = true ∧ 42 < Tryd.prog.types.size := ⟨by kernel_rfl, of_decide_eq_true (by kernel_rfl)⟩
theorem read47 : Tryd.prog.readableRec 47 = true ∧ 47 < Tryd.prog.types.size := ⟨by kernel_rfl, of_decide_eq_true (by kernel_rfl)⟩
theorem read5 : Tryd.prog.readableRec 5 = true ∧ 5 < Tryd.prog.types.size := ⟨by kernel_rfl, of_decide_eq_true (by kernel_rfl)⟩
theorem read55 : Tryd.prog.readableRec 55 = true ∧ 55 < Tryd.prog.types.size := ⟨by kernel_rfl, of_decide_eq_true (by kernel_rfl)⟩
theorem read57 : Tryd.prog.readableRec 57 = true ∧ 57 < Tryd.prog.types.size := ⟨by kernel_rfl, of_decide_eq_true (by kernel_rfl)⟩
theorem cell9 : Tryd.prog.cellsOf 9 = 1 := by kernel_rfl
theorem cell3 : Tryd.prog.cellsOf 3 = 1 := by kernel_rfl
theorem cell5 : Tryd.prog.cellsOf 5 = 1 := by kernel_rfl
theorem cell57 : Tryd.prog.cellsOf 57 = 3 := by kernel_rfl
theorem spot_of {w : World} {a : Addr} {v : Value} (h : w.cell? a = some v) : ∃ b o, a = ⟨b, o, none⟩ := by
  obtain ⟨b, o, sp⟩ := a
  cases sp with
  | none => exact ⟨b, o, rfl⟩
  | some s =>
    exfalso
    unfold World.cell? at h
    simp only [Option.isSome_some, if_true] at h
    split at h <;> cases h
theorem byte_in {k : Int} (h : (Lit.int .u8 k).wf = true) : ∃ n : Nat, k = n ∧ n < 256 := by
  have h2 : (decide (0 ≤ k) && decide (k ≤ 255)) = true := h
  rw [Bool.and_eq_true, decide_eq_true_eq, decide_eq_true_eq] at h2
  exact ⟨k.toNat, by omega, by omega⟩
theorem word_in {k : Int} (h : (Lit.int .u16 k).wf = true) : ∃ n : Nat, k = n ∧ n < 65536 := by
  have h2 : (decide (0 ≤ k) && decide (k ≤ 65535)) = true := h
  rw [Bool.and_eq_true, decide_eq_true_eq, decide_eq_true_eq] at h2
  exact ⟨k.toNat, by omega, by omega⟩
set_option maxRecDepth 100000 in
theorem open_words {H : Type} {enc : TypeId × Value → H} {W : World} {base : Nat} {v : Value} {d : DataW H} {p : List MemPlace} {spare : Nat → Bool} {held : Bool} {b0 : Nat}
    (hv : Value.okWide Tryd.prog W .any b0 42 v) (h : DataW.Trod enc Tryd.prog W base spare held 42 v d p) :
    ∃ (a : Option Addr) (c : Nat) (L : List (List UInt8)), v = .slice a L.length c ∧ L.length ≤ 9223372036854775807 ∧ (∀ x ∈ L, x.length ≤ 9223372036854775807) ∧ (0 < L.length → RowR W 1 (.slice a L.length c) L.length (wcells L)) := by
  obtain ⟨a0, len, cap, rfl⟩ := okWide_slice Tryd.underlying42 hv
  obtain ⟨fuel, hf⟩ := h
  rcases Go.Deep.open_strs Tryd.underlying42 Tryd.underlying9 cell9 hf with ⟨h1, _⟩ | ⟨a, ln, cp, m, Sx, h1, hb, hl, hm, hmm, hx, hi⟩
  · simp only [Value.cells, List.cons.injEq, and_true] at h1
    obtain ⟨rfl, rfl, rfl⟩ : a0 = none ∧ len = 0 ∧ cap = 0 := by cases h1; exact ⟨rfl, rfl, rfl⟩
    exact ⟨none, 0, [], rfl, by simp, fun _ h => (by cases h), fun h => (by cases h)⟩
  · simp only [Value.cells, List.cons.injEq, and_true] at h1
    obtain ⟨rfl, rfl, rfl⟩ : a0 = some a ∧ len = ln ∧ cap = cp := by cases h1; exact ⟨rfl, rfl, rfl⟩
    have hlm : len ≤ m := by rw [hmm]; split <;> omega
    have hll : ((List.range len).map fun i => (Sx i).data.toList).length = len := by simp
    refine ⟨some a, cap, (List.range len).map fun i => (Sx i).data.toList, by rw [hll], by rw [hll]; unfold maxLen at hm; omega, ?_, fun h0 => ?_⟩
    · intro x hx
      obtain ⟨i, hi', rfl⟩ := List.mem_map.1 hx
      have h1 := (hi i (by have := List.mem_range.1 hi'; omega)).2
      unfold maxLen at h1
      exact h1
    · rw [hll] at h0 ⊢
      obtain ⟨b, o, rfl⟩ := spot_of (hi 0 (by omega)).1
      have hlt : b < W.heap.size := cell_lt (hi 0 (by omega)).1
      refine ⟨by simp [wcells], Or.inr ⟨b, o, cap, rfl, hlt, hl, fun j u hu => ?_⟩⟩
      have hj : j < len := by
        rcases Nat.lt_or_ge j len with h | h
        · exact h
        · rw [List.getElem?_eq_none (by simp [wcells]; exact h)] at hu; cases hu
      have h2 := (hi j (by omega)).1
      rw [add_addr] at h2
      rw [h2]
      rw [wcells, List.getElem?_map, List.getElem?_map, List.getElem?_range hj] at hu
      simpa [strV] using hu
set_option maxRecDepth 100000 in
theorem open_act {H : Type} {enc : TypeId × Value → H} {W : World} {base : Nat} {cs : List Value} {fuel : Nat} {spare : Nat → Bool} {held : Bool} {x : DataW H × List MemPlace} (hl : cs.length = 3) (h : DataW.trod enc Tryd.prog W base spare held fuel 57 cs = some x) :
    ∃ (k : Nat) (n : Int) (s : ByteArray), cs = [.int .u8 k, .int .i64 n, .string s] ∧ k < 256 ∧ s.size ≤ 9223372036854775807 := by
  obtain ⟨y0, y1, y2, m, rfl, _, h0, h1, h2⟩ := Go.Deep.trod_struct3 Tryd.underlying57 h
  match cs, hl with
  | [v0, v1, v2], _ =>
    simp only [cell5, cell3, cell9, List.drop_zero, List.drop_succ_cons, List.take_succ_cons, List.take_zero] at h0 h1 h2
    obtain ⟨k, e0, _, w0⟩ := DataW.trod_int Tryd.underlying5 h0
    obtain ⟨n, e1, _, _⟩ := DataW.trod_int Tryd.underlying3 h1
    obtain ⟨s, e2, _, hs⟩ := DataW.trod_string Tryd.underlying9 h2
    obtain ⟨k', rfl, hk⟩ := byte_in w0
    simp only [List.cons.injEq, and_true] at e0 e1 e2
    subst e0 e1 e2
    unfold maxLen at hs
    exact ⟨k', n, s, rfl, hk, hs⟩
set_option maxRecDepth 100000 in
theorem open_acts {H : Type} {enc : TypeId × Value → H} {W : World} {base : Nat} {v : Value} {d : DataW H} {p : List MemPlace} {spare : Nat → Bool} {held : Bool} {b0 : Nat}
    (hv : Value.okWide Tryd.prog W .any b0 55 v) (h : DataW.Trod enc Tryd.prog W base spare held 55 v d p) :
    ∃ (a : Option Addr) (c : Nat) (L : List Ac), v = .slice a L.length c ∧ L.length ≤ 9223372036854775807 ∧ (∀ x ∈ L, x.1 < 256 ∧ x.2.2.length ≤ 9223372036854775807) ∧ (0 < L.length → RowR W 3 (.slice a L.length c) L.length (acells L)) := by
  obtain ⟨a0, len, cap, rfl⟩ := okWide_slice Tryd.underlying55 hv
  obtain ⟨fuel, hf⟩ := h
  rcases Go.Deep.open_slice Tryd.underlying55 hf with ⟨h1, _⟩ | ⟨a, ln, cp, m, n, D, Pl, h1, hb, hl, hm, hmm, hx, hi⟩
  · simp only [Value.cells, List.cons.injEq, and_true] at h1
    obtain ⟨rfl, rfl, rfl⟩ : a0 = none ∧ len = 0 ∧ cap = 0 := by cases h1; exact ⟨rfl, rfl, rfl⟩
    exact ⟨none, 0, [], rfl, by simp, fun _ h => (by cases h), fun h => (by cases h)⟩
  · simp only [Value.cells, List.cons.injEq, and_true] at h1
    obtain ⟨rfl, rfl, rfl⟩ : a0 = some a ∧ len = ln ∧ cap = cp := by cases h1; exact ⟨rfl, rfl, rfl⟩
    have hlm : len ≤ m := by rw [hmm]; split <;> omega
    have each : ∀ i, i < m → ∃ q : Ac, q.1 < 256 ∧ q.2.2.length ≤ 9223372036854775807 ∧ W.cell? (a.add (i * 3)) = some (.int .u8 q.1) ∧ W.cell? ((a.add (i * 3)).add 1) = some (.int .i64 q.2.1) ∧ W.cell? ((a.add (i * 3)).add 2) = some (strV q.2.2) := by
      intro i him
      obtain ⟨cs', h1, h2⟩ := hi i him
      rw [cell57] at h1
      obtain ⟨_, hlen, hcell⟩ := World.cells?_some h1
      obtain ⟨k, n', s, rfl, hk, hs⟩ := open_act hlen h2
      refine ⟨(k, n', s.data.toList), hk, hs, ?_, ?_, ?_⟩
      · have := hcell 0 (by omega)
        rw [Go.Deep.add_add] at this
        simpa using this
      · simpa using hcell 1 (by omega)
      · rw [strV_list]; simpa using hcell 2 (by omega)
    obtain ⟨q, hq⟩ := Go.Deep.choose_lt each
    have hll : ((List.range len).map q).length = len := by simp
    refine ⟨some a, cap, (List.range len).map q, by rw [hll], by rw [hll]; unfold maxLen at hm; omega, ?_, fun h0 => ?_⟩
    · intro x hx
      obtain ⟨i, hi', rfl⟩ := List.mem_map.1 hx
      have h1 := hq i (by have := List.mem_range.1 hi'; omega)
      exact ⟨h1.1, h1.2.1⟩
    · rw [hll] at h0 ⊢
      obtain ⟨b, o, hbo⟩ : ∃ b o, a = ⟨b, o, none⟩ := spot_of (by simpa [Addr.add] using (hq 0 (by omega)).2.2.1)
      subst hbo
      have hlt : b < W.heap.size := cell_lt (by simpa [Addr.add] using (hq 0 (by omega)).2.2.1)
      refine ⟨by rw [acells_len, hll], Or.inr ⟨b, o, cap, rfl, hlt, hl, fun j u hu => ?_⟩⟩
      have hj : j < len * 3 := by
        rcases Nat.lt_or_ge j (len * 3) with h | h
        · exact h
        · rw [List.getElem?_eq_none (by rw [acells_len, hll]; exact h)] at hu; cases hu
      obtain ⟨g0, g1, g2⟩ := acells_get ((List.range len).map q) (j / 3) (by rw [hll]; omega)
      have hg : ((List.range len).map q).getD (j / 3) default = q (j / 3) := by
        rw [List.getD_eq_getElem?_getD, List.getElem?_map, List.getElem?_range (by omega)]; rfl
      rw [hg] at g0 g1 g2
      obtain ⟨_, _, c0, c1, c2⟩ := hq (j / 3) (by omega)
      simp only [add_addr] at c0 c1 c2
      rcases (by omega : j = j / 3 * 3 ∨ j = j / 3 * 3 + 1 ∨ j = j / 3 * 3 + 2) with e | e | e
      · rw [e, g0] at hu; rw [e, c0, ← hu]
      · rw [e, g1] at hu; rw [e, ← Nat.add_assoc, c1, ← hu]
      · rw [e, g2] at hu; rw [e, ← Nat.add_assoc, c2, ← hu]
end Go.Proofs.YtheemefggkcfbaaDoor
