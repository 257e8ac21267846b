import Derived.Test.YtgiaohccebolpaaGreatDoorQ2
namespace Go.Proofs.YtgiaohccebolpaaGreatDoor
open Go Go.RowKit
open Go.Lib hiding intOf
set_option linter.unusedVariables false
/-! ### the data -/
structure Rn where
  t : List UInt8
  c : Nat
  i : Bool
  u : Bool
  r : List UInt8
  deriving DecidableEq
instance : Inhabited Rn := ⟨⟨[], 0, false, false, []⟩⟩
abbrev Rw := List Rn
abbrev rnV (t : ByteArray) (c : Int) (i u : Bool) (r : ByteArray) : Value := .agg #[.string t, .int .u8 c, .bool i, .bool u, .string r]
def Rn.cells (x : Rn) : List Value := [.string (ba x.t), .int .u8 (x.c : Int), .bool x.i, .bool x.u, .string (ba x.r)]
def Rn.v (x : Rn) : Value := rnV (ba x.t) (x.c : Int) x.i x.u (ba x.r)
structure Ev where
  id : Int
  inn : Int
  out : Int
  reg : List UInt8
  kind : Nat
  spk : List UInt8
  rows : List Rw
structure Cm where
  id : Int
  ev : Int
  fr : Int
  too : Int
  au : List UInt8
  tx : List UInt8
  dn : Bool
  lo : Bool
structure Dc where
  title : List UInt8
  lang : List UInt8
  rate : Nat
  drop : Bool
  last : Int
  regs : List Rg
  evs : List Ev
  cms : List Cm
instance : Inhabited Ev := ⟨⟨0, 0, 0, [], 0, [], []⟩⟩
instance : Inhabited Rg := ⟨⟨⟨#[]⟩, 0, 0, 0, 0, 0, false⟩⟩
instance : Inhabited Cm := ⟨⟨0, 0, 0, 0, [], [], false, false⟩⟩
def Cm.cells (c : Cm) : List Value := [.int .i64 c.id, .int .i64 c.ev, .int .i64 c.fr, .int .i64 c.too, .string (ba c.au), .string (ba c.tx), .bool c.dn, .bool c.lo]
theorem Rn.cells_len (x : Rn) : x.cells.length = 5 := rfl
theorem Rg.cells_len (x : Rg) : x.cells.length = 7 := rfl
theorem Cm.cells_len (x : Cm) : x.cells.length = 8 := rfl
theorem Rn.cells_one (x : Rn) : ∀ u ∈ x.cells, u.oneCell' = true := by
  intro u hu; simp [Rn.cells] at hu; rcases hu with rfl | rfl | rfl | rfl | rfl <;> rfl
/-! ### how the data lie in memory -/
abbrev RunsR (w : World) (v : Value) (l : Rw) : Prop := RowR w 5 v l.length (encL Rn.cells l)
/-- A slice of rows: each its slice of runs. -/
def RowsR (w : World) (v : Value) (L : List Rw) : Prop := ∃ vs : List Value, RowR w 1 v L.length vs ∧ ∀ i, i < L.length → ∃ u, vs[i]? = some u ∧ RunsR w u (L.getD i [])
def evCells (x : Ev) (vr : Value) : List Value := [.int .i64 x.id, .int .i64 x.inn, .int .i64 x.out, .string (ba x.reg), .int .u8 (x.kind : Int), .string (ba x.spk), vr]
abbrev evV (id inn out : Int) (reg : ByteArray) (kind : Int) (spk : ByteArray) (vr : Value) : Value := .agg #[.int .i64 id, .int .i64 inn, .int .i64 out, .string reg, .int .u8 kind, .string spk, vr]
/-- A slice of events. -/
def EvsR (w : World) (v : Value) (L : List Ev) : Prop := ∃ p : List (Ev × Value), p.map (·.1) = L ∧ RowR w 7 v L.length (encL (fun x => evCells x.1 x.2) p) ∧ ∀ x ∈ p, RowsR w x.2 x.1.rows
def RgsR (w : World) (v : Value) (L : List Rg) : Prop := RowR w 7 v L.length (encL Rg.cells L)
def CmsR (w : World) (v : Value) (L : List Cm) : Prop := RowR w 8 v L.length (encL Cm.cells L)
abbrev dcV (title lang : ByteArray) (rate : Int) (drop : Bool) (last : Int) (vg ve vc : Value) : Value := .agg #[.string title, .string lang, .int .u8 rate, .bool drop, .int .i64 last, vg, ve, vc]
/-- A document, by value. -/
def DocV (w : World) (v : Value) (d : Dc) : Prop := ∃ vg ve vc, v = dcV (ba d.title) (ba d.lang) (d.rate : Int) d.drop d.last vg ve vc ∧ RgsR w vg d.regs ∧ EvsR w ve d.evs ∧ CmsR w vc d.cms
theorem RowsR.below {w w' : World} {v : Value} {L : List Rw} (h : RowsR w v L) (hb : Below w.heap.size w w') : RowsR w' v L := by
  obtain ⟨vs, h1, h2⟩ := h
  exact ⟨vs, h1.below hb, fun i hi => by obtain ⟨u, e, hu⟩ := h2 i hi; exact ⟨u, e, hu.below hb⟩⟩
theorem EvsR.below {w w' : World} {v : Value} {L : List Ev} (h : EvsR w v L) (hb : Below w.heap.size w w') : EvsR w' v L := by
  obtain ⟨p, h1, h2, h3⟩ := h
  exact ⟨p, h1, h2.below hb, fun x hx => (h3 x hx).below hb⟩
theorem DocV.below {w w' : World} {v : Value} {d : Dc} (h : DocV w v d) (hb : Below w.heap.size w w') : DocV w' v d := by
  obtain ⟨vg, ve, vc, e, h1, h2, h3⟩ := h
  exact ⟨vg, ve, vc, e, RowR.below h1 hb, h2.below hb, RowR.below h3 hb⟩
theorem RowsR.len {w : World} {v : Value} {L : List Rw} (h : RowsR w v L) : ∃ a c, v = .slice a L.length c := by
  obtain ⟨vs, h1, _⟩ := h; exact h1.len
theorem EvsR.len {w : World} {v : Value} {L : List Ev} (h : EvsR w v L) : ∃ a c, v = .slice a L.length c := by
  obtain ⟨p, _, h1, _⟩ := h; exact h1.len
/-- A row's slice of runs, where it lies. -/
theorem RowsR.at {w : World} {n c g off : Nat} {L : List Rw} (h : RowsR w (.slice (some ⟨g, off, none⟩) n c) L) (hn : n = L.length) (i : Nat) (hi : i < L.length) : ∃ u, w.cell? ⟨g, off + i, none⟩ = some u ∧ RunsR w u (L.getD i []) := by
  subst hn
  obtain ⟨vs, h1, h2⟩ := h
  obtain ⟨u, e, hu⟩ := h2 i hi
  exact ⟨u, h1.cellAt _ _ e, hu⟩
theorem RowsR.addr {w : World} {n c : Nat} {a : Option Addr} {L : List Rw} (h : RowsR w (.slice a n c) L) (hn : 0 < L.length) : ∃ g off, a = some ⟨g, off, none⟩ ∧ g < w.heap.size := by
  obtain ⟨vs, h1, h2⟩ := h
  obtain ⟨g, off, e, hg, _⟩ := h1.addr hn
  exact ⟨g, off, e, hg⟩
theorem EvsR.addr {w : World} {n c : Nat} {a : Option Addr} {L : List Ev} (h : EvsR w (.slice a n c) L) (hn : 0 < L.length) : ∃ g off, a = some ⟨g, off, none⟩ ∧ g < w.heap.size := by
  obtain ⟨p, _, h1, h2⟩ := h
  obtain ⟨g, off, e, hg, _⟩ := h1.addr hn
  exact ⟨g, off, e, hg⟩
theorem EvsR.at {w : World} {n c g off : Nat} {L : List Ev} (h : EvsR w (.slice (some ⟨g, off, none⟩) n c) L) (hn : n = L.length) (i : Nat) (hi : i < L.length) :
    ∃ vr, RowsR w vr (L.getD i default).rows ∧ w.cell? ⟨g, off + i * 7, none⟩ = some (.int .i64 (L.getD i default).id) ∧ w.cell? ⟨g, off + i * 7 + 1, none⟩ = some (.int .i64 (L.getD i default).inn) ∧ w.cell? ⟨g, off + i * 7 + 2, none⟩ = some (.int .i64 (L.getD i default).out) ∧
      w.cell? ⟨g, off + i * 7 + 3, none⟩ = some (.string (ba (L.getD i default).reg)) ∧ w.cell? ⟨g, off + i * 7 + 4, none⟩ = some (.int .u8 ((L.getD i default).kind : Int)) ∧ w.cell? ⟨g, off + i * 7 + 5, none⟩ = some (.string (ba (L.getD i default).spk)) ∧ w.cell? ⟨g, off + i * 7 + 6, none⟩ = some vr := by
  subst hn
  obtain ⟨p, rfl, h1, h3⟩ := h
  have hip : i < p.length := by simpa using hi
  have e : (p.map (·.1)).getD i default = (p[i]).1 := by rw [getD_of hi]; simp
  rw [e]
  have hk : ∀ x : Ev × Value, (evCells x.1 x.2).length = 7 := fun _ => rfl
  refine ⟨(p[i]).2, h3 _ (List.getElem_mem hip), ?_, ?_, ?_, ?_, ?_, ?_, ?_⟩
  · exact h1.elem hk i hip 0 (by decide) _ rfl
  · exact h1.elem hk i hip 1 (by decide) _ rfl
  · exact h1.elem hk i hip 2 (by decide) _ rfl
  · exact h1.elem hk i hip 3 (by decide) _ rfl
  · exact h1.elem hk i hip 4 (by decide) _ rfl
  · exact h1.elem hk i hip 5 (by decide) _ rfl
  · exact h1.elem hk i hip 6 (by decide) _ rfl
theorem RunsR.at {w : World} {n c g off : Nat} {L : Rw} (h : RunsR w (.slice (some ⟨g, off, none⟩) n c) L) (hn : n = L.length) (i : Nat) (hi : i < L.length) :
    w.cell? ⟨g, off + i * 5, none⟩ = some (.string (ba (L.getD i default).t)) ∧ w.cell? ⟨g, off + i * 5 + 1, none⟩ = some (.int .u8 ((L.getD i default).c : Int)) ∧ w.cell? ⟨g, off + i * 5 + 2, none⟩ = some (.bool (L.getD i default).i) ∧
      w.cell? ⟨g, off + i * 5 + 3, none⟩ = some (.bool (L.getD i default).u) ∧ w.cell? ⟨g, off + i * 5 + 4, none⟩ = some (.string (ba (L.getD i default).r)) := by
  subst hn
  rw [getD_of hi]
  exact ⟨RowR.elem (k := 5) Rn.cells_len h i hi 0 (by decide) _ rfl, RowR.elem (k := 5) Rn.cells_len h i hi 1 (by decide) _ rfl, RowR.elem (k := 5) Rn.cells_len h i hi 2 (by decide) _ rfl, RowR.elem (k := 5) Rn.cells_len h i hi 3 (by decide) _ rfl, RowR.elem (k := 5) Rn.cells_len h i hi 4 (by decide) _ rfl⟩
theorem RgsR.at {w : World} {n c g off : Nat} {L : List Rg} (h : RgsR w (.slice (some ⟨g, off, none⟩) n c) L) (hn : n = L.length) (i : Nat) (hi : i < L.length) :
    w.cell? ⟨g, off + i * 7, none⟩ = some (.string (L.getD i default).nm) ∧ w.cell? ⟨g, off + i * 7 + 1, none⟩ = some (.int .i64 (L.getD i default).top) ∧ w.cell? ⟨g, off + i * 7 + 2, none⟩ = some (.int .i64 (L.getD i default).ht) ∧
      w.cell? ⟨g, off + i * 7 + 3, none⟩ = some (.int .i64 (L.getD i default).lf) ∧ w.cell? ⟨g, off + i * 7 + 4, none⟩ = some (.int .i64 (L.getD i default).wd) ∧ w.cell? ⟨g, off + i * 7 + 5, none⟩ = some (.int .u8 ((L.getD i default).al : Int)) ∧ w.cell? ⟨g, off + i * 7 + 6, none⟩ = some (.bool (L.getD i default).bot) := by
  subst hn
  rw [getD_of hi]
  exact ⟨RowR.elem (k := 7) Rg.cells_len h i hi 0 (by decide) _ rfl, RowR.elem (k := 7) Rg.cells_len h i hi 1 (by decide) _ rfl, RowR.elem (k := 7) Rg.cells_len h i hi 2 (by decide) _ rfl, RowR.elem (k := 7) Rg.cells_len h i hi 3 (by decide) _ rfl, RowR.elem (k := 7) Rg.cells_len h i hi 4 (by decide) _ rfl, RowR.elem (k := 7) Rg.cells_len h i hi 5 (by decide) _ rfl, RowR.elem (k := 7) Rg.cells_len h i hi 6 (by decide) _ rfl⟩
theorem CmsR.at {w : World} {n c g off : Nat} {L : List Cm} (h : CmsR w (.slice (some ⟨g, off, none⟩) n c) L) (hn : n = L.length) (i : Nat) (hi : i < L.length) :
    w.cell? ⟨g, off + i * 8, none⟩ = some (.int .i64 (L.getD i default).id) ∧ w.cell? ⟨g, off + i * 8 + 1, none⟩ = some (.int .i64 (L.getD i default).ev) ∧ w.cell? ⟨g, off + i * 8 + 2, none⟩ = some (.int .i64 (L.getD i default).fr) ∧
      w.cell? ⟨g, off + i * 8 + 3, none⟩ = some (.int .i64 (L.getD i default).too) ∧ w.cell? ⟨g, off + i * 8 + 4, none⟩ = some (.string (ba (L.getD i default).au)) ∧ w.cell? ⟨g, off + i * 8 + 5, none⟩ = some (.string (ba (L.getD i default).tx)) ∧
      w.cell? ⟨g, off + i * 8 + 6, none⟩ = some (.bool (L.getD i default).dn) ∧ w.cell? ⟨g, off + i * 8 + 7, none⟩ = some (.bool (L.getD i default).lo) := by
  subst hn
  rw [getD_of hi]
  exact ⟨RowR.elem (k := 8) Cm.cells_len h i hi 0 (by decide) _ rfl, RowR.elem (k := 8) Cm.cells_len h i hi 1 (by decide) _ rfl, RowR.elem (k := 8) Cm.cells_len h i hi 2 (by decide) _ rfl, RowR.elem (k := 8) Cm.cells_len h i hi 3 (by decide) _ rfl, RowR.elem (k := 8) Cm.cells_len h i hi 4 (by decide) _ rfl, RowR.elem (k := 8) Cm.cells_len h i hi 5 (by decide) _ rfl, RowR.elem (k := 8) Cm.cells_len h i hi 6 (by decide) _ rfl, RowR.elem (k := 8) Cm.cells_len h i hi 7 (by decide) _ rfl⟩
end Go.Proofs.YtgiaohccebolpaaGreatDoor
namespace Go.Proofs.YtgiaohccebolpaaGreatDoor
open Go Go.RowKit
open Go.Lib hiding intOf
set_option linter.unusedVariables false
attribute [local go_sem ↓] eq56
theorem set3 {w : World} {b : Nat} {E : TypeId} {a0 a1 a2 x0 x1 x2 : Value} (h : w.heap[b]? = some (.cells #[a0, a1, a2] E (0, 0))) :
    (((w.setCell ⟨b, 0, none⟩ x0).setCell ⟨b, 1, none⟩ x1).setCell ⟨b, 2, none⟩ x2).heap[b]? = some (.cells #[x0, x1, x2] E (0, 0)) := by
  have h0 : (w.setCell ⟨b, 0, none⟩ x0).heap[b]? = some (.cells #[x0, a1, a2] E (0, 0)) := blk_set h
  have h1 : ((w.setCell ⟨b, 0, none⟩ x0).setCell ⟨b, 1, none⟩ x1).heap[b]? = some (.cells #[x0, x1, a2] E (0, 0)) := blk_set h0
  have h2 : (((w.setCell ⟨b, 0, none⟩ x0).setCell ⟨b, 1, none⟩ x1).setCell ⟨b, 2, none⟩ x2).heap[b]? = some (.cells #[x0, x1, x2] E (0, 0)) := blk_set h1
  exact h2
theorem set5 {w : World} {b : Nat} {E : TypeId} {a0 a1 a2 a3 a4 x0 x1 x2 x3 x4 : Value} (h : w.heap[b]? = some (.cells #[a0, a1, a2, a3, a4] E (0, 0))) :
    (((((w.setCell ⟨b, 0, none⟩ x0).setCell ⟨b, 1, none⟩ x1).setCell ⟨b, 2, none⟩ x2).setCell ⟨b, 3, none⟩ x3).setCell ⟨b, 4, none⟩ x4).heap[b]? = some (.cells #[x0, x1, x2, x3, x4] E (0, 0)) := by
  have h0 : (w.setCell ⟨b, 0, none⟩ x0).heap[b]? = some (.cells #[x0, a1, a2, a3, a4] E (0, 0)) := blk_set h
  have h1 : ((w.setCell ⟨b, 0, none⟩ x0).setCell ⟨b, 1, none⟩ x1).heap[b]? = some (.cells #[x0, x1, a2, a3, a4] E (0, 0)) := blk_set h0
  have h2 : (((w.setCell ⟨b, 0, none⟩ x0).setCell ⟨b, 1, none⟩ x1).setCell ⟨b, 2, none⟩ x2).heap[b]? = some (.cells #[x0, x1, x2, a3, a4] E (0, 0)) := blk_set h1
  have h3 : ((((w.setCell ⟨b, 0, none⟩ x0).setCell ⟨b, 1, none⟩ x1).setCell ⟨b, 2, none⟩ x2).setCell ⟨b, 3, none⟩ x3).heap[b]? = some (.cells #[x0, x1, x2, x3, a4] E (0, 0)) := blk_set h2
  have h4 : (((((w.setCell ⟨b, 0, none⟩ x0).setCell ⟨b, 1, none⟩ x1).setCell ⟨b, 2, none⟩ x2).setCell ⟨b, 3, none⟩ x3).setCell ⟨b, 4, none⟩ x4).heap[b]? = some (.cells #[x0, x1, x2, x3, x4] E (0, 0)) := blk_set h3
  exact h4
theorem set7 {w : World} {b : Nat} {E : TypeId} {a0 a1 a2 a3 a4 a5 a6 x0 x1 x2 x3 x4 x5 x6 : Value} (h : w.heap[b]? = some (.cells #[a0, a1, a2, a3, a4, a5, a6] E (0, 0))) :
    (((((((w.setCell ⟨b, 0, none⟩ x0).setCell ⟨b, 1, none⟩ x1).setCell ⟨b, 2, none⟩ x2).setCell ⟨b, 3, none⟩ x3).setCell ⟨b, 4, none⟩ x4).setCell ⟨b, 5, none⟩ x5).setCell ⟨b, 6, none⟩ x6).heap[b]? = some (.cells #[x0, x1, x2, x3, x4, x5, x6] E (0, 0)) := by
  have h0 : (w.setCell ⟨b, 0, none⟩ x0).heap[b]? = some (.cells #[x0, a1, a2, a3, a4, a5, a6] E (0, 0)) := blk_set h
  have h1 : ((w.setCell ⟨b, 0, none⟩ x0).setCell ⟨b, 1, none⟩ x1).heap[b]? = some (.cells #[x0, x1, a2, a3, a4, a5, a6] E (0, 0)) := blk_set h0
  have h2 : (((w.setCell ⟨b, 0, none⟩ x0).setCell ⟨b, 1, none⟩ x1).setCell ⟨b, 2, none⟩ x2).heap[b]? = some (.cells #[x0, x1, x2, a3, a4, a5, a6] E (0, 0)) := blk_set h1
  have h3 : ((((w.setCell ⟨b, 0, none⟩ x0).setCell ⟨b, 1, none⟩ x1).setCell ⟨b, 2, none⟩ x2).setCell ⟨b, 3, none⟩ x3).heap[b]? = some (.cells #[x0, x1, x2, x3, a4, a5, a6] E (0, 0)) := blk_set h2
  have h4 : (((((w.setCell ⟨b, 0, none⟩ x0).setCell ⟨b, 1, none⟩ x1).setCell ⟨b, 2, none⟩ x2).setCell ⟨b, 3, none⟩ x3).setCell ⟨b, 4, none⟩ x4).heap[b]? = some (.cells #[x0, x1, x2, x3, x4, a5, a6] E (0, 0)) := blk_set h3
  have h5 : ((((((w.setCell ⟨b, 0, none⟩ x0).setCell ⟨b, 1, none⟩ x1).setCell ⟨b, 2, none⟩ x2).setCell ⟨b, 3, none⟩ x3).setCell ⟨b, 4, none⟩ x4).setCell ⟨b, 5, none⟩ x5).heap[b]? = some (.cells #[x0, x1, x2, x3, x4, x5, a6] E (0, 0)) := blk_set h4
  have h6 : (((((((w.setCell ⟨b, 0, none⟩ x0).setCell ⟨b, 1, none⟩ x1).setCell ⟨b, 2, none⟩ x2).setCell ⟨b, 3, none⟩ x3).setCell ⟨b, 4, none⟩ x4).setCell ⟨b, 5, none⟩ x5).setCell ⟨b, 6, none⟩ x6).heap[b]? = some (.cells #[x0, x1, x2, x3, x4, x5, x6] E (0, 0)) := blk_set h5
  exact h6
theorem set8 {w : World} {b : Nat} {E : TypeId} {a0 a1 a2 a3 a4 a5 a6 a7 x0 x1 x2 x3 x4 x5 x6 x7 : Value} (h : w.heap[b]? = some (.cells #[a0, a1, a2, a3, a4, a5, a6, a7] E (0, 0))) :
    ((((((((w.setCell ⟨b, 0, none⟩ x0).setCell ⟨b, 1, none⟩ x1).setCell ⟨b, 2, none⟩ x2).setCell ⟨b, 3, none⟩ x3).setCell ⟨b, 4, none⟩ x4).setCell ⟨b, 5, none⟩ x5).setCell ⟨b, 6, none⟩ x6).setCell ⟨b, 7, none⟩ x7).heap[b]? = some (.cells #[x0, x1, x2, x3, x4, x5, x6, x7] E (0, 0)) := by
  have h0 : (w.setCell ⟨b, 0, none⟩ x0).heap[b]? = some (.cells #[x0, a1, a2, a3, a4, a5, a6, a7] E (0, 0)) := blk_set h
  have h1 : ((w.setCell ⟨b, 0, none⟩ x0).setCell ⟨b, 1, none⟩ x1).heap[b]? = some (.cells #[x0, x1, a2, a3, a4, a5, a6, a7] E (0, 0)) := blk_set h0
  have h2 : (((w.setCell ⟨b, 0, none⟩ x0).setCell ⟨b, 1, none⟩ x1).setCell ⟨b, 2, none⟩ x2).heap[b]? = some (.cells #[x0, x1, x2, a3, a4, a5, a6, a7] E (0, 0)) := blk_set h1
  have h3 : ((((w.setCell ⟨b, 0, none⟩ x0).setCell ⟨b, 1, none⟩ x1).setCell ⟨b, 2, none⟩ x2).setCell ⟨b, 3, none⟩ x3).heap[b]? = some (.cells #[x0, x1, x2, x3, a4, a5, a6, a7] E (0, 0)) := blk_set h2
  have h4 : (((((w.setCell ⟨b, 0, none⟩ x0).setCell ⟨b, 1, none⟩ x1).setCell ⟨b, 2, none⟩ x2).setCell ⟨b, 3, none⟩ x3).setCell ⟨b, 4, none⟩ x4).heap[b]? = some (.cells #[x0, x1, x2, x3, x4, a5, a6, a7] E (0, 0)) := blk_set h3
  have h5 : ((((((w.setCell ⟨b, 0, none⟩ x0).setCell ⟨b, 1, none⟩ x1).setCell ⟨b, 2, none⟩ x2).setCell ⟨b, 3, none⟩ x3).setCell ⟨b, 4, none⟩ x4).setCell ⟨b, 5, none⟩ x5).heap[b]? = some (.cells #[x0, x1, x2, x3, x4, x5, a6, a7] E (0, 0)) := blk_set h4
  have h6 : (((((((w.setCell ⟨b, 0, none⟩ x0).setCell ⟨b, 1, none⟩ x1).setCell ⟨b, 2, none⟩ x2).setCell ⟨b, 3, none⟩ x3).setCell ⟨b, 4, none⟩ x4).setCell ⟨b, 5, none⟩ x5).setCell ⟨b, 6, none⟩ x6).heap[b]? = some (.cells #[x0, x1, x2, x3, x4, x5, x6, a7] E (0, 0)) := blk_set h5
  have h7 : ((((((((w.setCell ⟨b, 0, none⟩ x0).setCell ⟨b, 1, none⟩ x1).setCell ⟨b, 2, none⟩ x2).setCell ⟨b, 3, none⟩ x3).setCell ⟨b, 4, none⟩ x4).setCell ⟨b, 5, none⟩ x5).setCell ⟨b, 6, none⟩ x6).setCell ⟨b, 7, none⟩ x7).heap[b]? = some (.cells #[x0, x1, x2, x3, x4, x5, x6, x7] E (0, 0)) := blk_set h6
  exact h7
theorem blk1 {w : World} {b : Nat} {a0 : Value} {E : TypeId} (h : w.heap[b]? = some (.cells #[a0] E (0, 0))) :
    w.cell? ⟨b, 0, none⟩ = some a0 ∧ (∀ o, w.frozen? ⟨b, o, none⟩ = false) ∧ b < w.heap.size := by
  refine ⟨?_, fun o => ?_, heap_lt h⟩
  all_goals simp [World.cell?, World.frozen?, h]
theorem blk3 {w : World} {b : Nat} {a0 a1 a2 : Value} {E : TypeId} (h : w.heap[b]? = some (.cells #[a0, a1, a2] E (0, 0))) :
    w.cell? ⟨b, 0, none⟩ = some a0 ∧ w.cell? ⟨b, 1, none⟩ = some a1 ∧ w.cell? ⟨b, 2, none⟩ = some a2 ∧ (∀ o, w.frozen? ⟨b, o, none⟩ = false) ∧ b < w.heap.size := by
  refine ⟨?_, ?_, ?_, fun o => ?_, heap_lt h⟩
  all_goals simp [World.cell?, World.frozen?, h]
theorem blk5 {w : World} {b : Nat} {a0 a1 a2 a3 a4 : Value} {E : TypeId} (h : w.heap[b]? = some (.cells #[a0, a1, a2, a3, a4] E (0, 0))) :
    w.cell? ⟨b, 0, none⟩ = some a0 ∧ w.cell? ⟨b, 1, none⟩ = some a1 ∧ w.cell? ⟨b, 2, none⟩ = some a2 ∧ w.cell? ⟨b, 3, none⟩ = some a3 ∧ w.cell? ⟨b, 4, none⟩ = some a4 ∧ (∀ o, w.frozen? ⟨b, o, none⟩ = false) ∧ b < w.heap.size := by
  refine ⟨?_, ?_, ?_, ?_, ?_, fun o => ?_, heap_lt h⟩
  all_goals simp [World.cell?, World.frozen?, h]
theorem blk7 {w : World} {b : Nat} {a0 a1 a2 a3 a4 a5 a6 : Value} {E : TypeId} (h : w.heap[b]? = some (.cells #[a0, a1, a2, a3, a4, a5, a6] E (0, 0))) :
    w.cell? ⟨b, 0, none⟩ = some a0 ∧ w.cell? ⟨b, 1, none⟩ = some a1 ∧ w.cell? ⟨b, 2, none⟩ = some a2 ∧ w.cell? ⟨b, 3, none⟩ = some a3 ∧ w.cell? ⟨b, 4, none⟩ = some a4 ∧ w.cell? ⟨b, 5, none⟩ = some a5 ∧ w.cell? ⟨b, 6, none⟩ = some a6 ∧ (∀ o, w.frozen? ⟨b, o, none⟩ = false) ∧ b < w.heap.size := by
  refine ⟨?_, ?_, ?_, ?_, ?_, ?_, ?_, fun o => ?_, heap_lt h⟩
  all_goals simp [World.cell?, World.frozen?, h]
theorem blk8 {w : World} {b : Nat} {a0 a1 a2 a3 a4 a5 a6 a7 : Value} {E : TypeId} (h : w.heap[b]? = some (.cells #[a0, a1, a2, a3, a4, a5, a6, a7] E (0, 0))) :
    w.cell? ⟨b, 0, none⟩ = some a0 ∧ w.cell? ⟨b, 1, none⟩ = some a1 ∧ w.cell? ⟨b, 2, none⟩ = some a2 ∧ w.cell? ⟨b, 3, none⟩ = some a3 ∧ w.cell? ⟨b, 4, none⟩ = some a4 ∧ w.cell? ⟨b, 5, none⟩ = some a5 ∧ w.cell? ⟨b, 6, none⟩ = some a6 ∧ w.cell? ⟨b, 7, none⟩ = some a7 ∧ (∀ o, w.frozen? ⟨b, o, none⟩ = false) ∧ b < w.heap.size := by
  refine ⟨?_, ?_, ?_, ?_, ?_, ?_, ?_, ?_, fun o => ?_, heap_lt h⟩
  all_goals simp [World.cell?, World.frozen?, h]
theorem below7 {B b : Nat} {w W : World} {x0 x1 x2 x3 x4 x5 x6 : Value} (h : Below B w W) (hb : B ≤ b) :
    Below B w (((((((W.setCell ⟨b, 0, none⟩ x0).setCell ⟨b, 1, none⟩ x1).setCell ⟨b, 2, none⟩ x2).setCell ⟨b, 3, none⟩ x3).setCell ⟨b, 4, none⟩ x4).setCell ⟨b, 5, none⟩ x5).setCell ⟨b, 6, none⟩ x6) :=
  ((((((h.setCell hb _).setCell hb _).setCell hb _).setCell hb _).setCell hb _).setCell hb _).setCell hb _
set_option maxHeartbeats 4000000 in
set_option maxRecDepth 100000 in
theorem default_any (w : World) : Calls Tryz.prog 96 #[] w fun e w' => e = .returned (rgV ⟨#[]⟩ 11 4 0 32 2 true) ∧ Below w.heap.size w w' := by
  go_enter Tryz.func96, Tryz.ntmps96
  go_wp2
  refine bodyPost_ret (results_cell_row Tryz.results96 _ _ _ _ _ _ _ rfl (heap_alloc_new _ _) Tryz.underlying56 rfl (by kernel_rfl)) rfl ⟨rfl, ?_⟩
  exact below1 _ (Nat.le_refl _)
theorem world_as {P : Program} {c : Code} {Q : Exit → Act → World → Prop} {a : Act} {w : World} (F : World → Prop) (h : F w) (k : ∀ W, F W → Code.wp P c Q a W) : Code.wp P c Q a w := k w h
theorem keep1 {b : Nat} {w w' w'' : World} {v0 : Value} (h : w'.cell? ⟨b, 0, none⟩ = some v0 ∧ Below w.heap.size w w') (hb : Below w'.heap.size w' w'') : w''.cell? ⟨b, 0, none⟩ = some v0 ∧ Below w.heap.size w w'' := by
  obtain ⟨k0, hw⟩ := h
  exact ⟨(hb.cell (cell_lt k0)).trans k0, below_grow hw hw.size hb⟩
theorem keep3 {b : Nat} {w w' w'' : World} {v0 v1 v2 : Value} (h : w'.cell? ⟨b, 0, none⟩ = some v0 ∧ w'.cell? ⟨b, 1, none⟩ = some v1 ∧ w'.cell? ⟨b, 2, none⟩ = some v2 ∧ Below w.heap.size w w') (hb : Below w'.heap.size w' w'') : w''.cell? ⟨b, 0, none⟩ = some v0 ∧ w''.cell? ⟨b, 1, none⟩ = some v1 ∧ w''.cell? ⟨b, 2, none⟩ = some v2 ∧ Below w.heap.size w w'' := by
  obtain ⟨k0, k1, k2, hw⟩ := h
  exact ⟨(hb.cell (cell_lt k0)).trans k0, (hb.cell (cell_lt k1)).trans k1, (hb.cell (cell_lt k2)).trans k2, below_grow hw hw.size hb⟩
theorem keep5 {b : Nat} {w w' w'' : World} {v0 v1 v2 v3 v4 : Value} (h : w'.cell? ⟨b, 0, none⟩ = some v0 ∧ w'.cell? ⟨b, 1, none⟩ = some v1 ∧ w'.cell? ⟨b, 2, none⟩ = some v2 ∧ w'.cell? ⟨b, 3, none⟩ = some v3 ∧ w'.cell? ⟨b, 4, none⟩ = some v4 ∧ Below w.heap.size w w') (hb : Below w'.heap.size w' w'') : w''.cell? ⟨b, 0, none⟩ = some v0 ∧ w''.cell? ⟨b, 1, none⟩ = some v1 ∧ w''.cell? ⟨b, 2, none⟩ = some v2 ∧ w''.cell? ⟨b, 3, none⟩ = some v3 ∧ w''.cell? ⟨b, 4, none⟩ = some v4 ∧ Below w.heap.size w w'' := by
  obtain ⟨k0, k1, k2, k3, k4, hw⟩ := h
  exact ⟨(hb.cell (cell_lt k0)).trans k0, (hb.cell (cell_lt k1)).trans k1, (hb.cell (cell_lt k2)).trans k2, (hb.cell (cell_lt k3)).trans k3, (hb.cell (cell_lt k4)).trans k4, below_grow hw hw.size hb⟩
theorem keep7 {b : Nat} {w w' w'' : World} {v0 v1 v2 v3 v4 v5 v6 : Value} (h : w'.cell? ⟨b, 0, none⟩ = some v0 ∧ w'.cell? ⟨b, 1, none⟩ = some v1 ∧ w'.cell? ⟨b, 2, none⟩ = some v2 ∧ w'.cell? ⟨b, 3, none⟩ = some v3 ∧ w'.cell? ⟨b, 4, none⟩ = some v4 ∧ w'.cell? ⟨b, 5, none⟩ = some v5 ∧ w'.cell? ⟨b, 6, none⟩ = some v6 ∧ Below w.heap.size w w') (hb : Below w'.heap.size w' w'') : w''.cell? ⟨b, 0, none⟩ = some v0 ∧ w''.cell? ⟨b, 1, none⟩ = some v1 ∧ w''.cell? ⟨b, 2, none⟩ = some v2 ∧ w''.cell? ⟨b, 3, none⟩ = some v3 ∧ w''.cell? ⟨b, 4, none⟩ = some v4 ∧ w''.cell? ⟨b, 5, none⟩ = some v5 ∧ w''.cell? ⟨b, 6, none⟩ = some v6 ∧ Below w.heap.size w w'' := by
  obtain ⟨k0, k1, k2, k3, k4, k5, k6, hw⟩ := h
  exact ⟨(hb.cell (cell_lt k0)).trans k0, (hb.cell (cell_lt k1)).trans k1, (hb.cell (cell_lt k2)).trans k2, (hb.cell (cell_lt k3)).trans k3, (hb.cell (cell_lt k4)).trans k4, (hb.cell (cell_lt k5)).trans k5, (hb.cell (cell_lt k6)).trans k6, below_grow hw hw.size hb⟩
theorem keep8 {b : Nat} {w w' w'' : World} {v0 v1 v2 v3 v4 v5 v6 v7 : Value} (h : w'.cell? ⟨b, 0, none⟩ = some v0 ∧ w'.cell? ⟨b, 1, none⟩ = some v1 ∧ w'.cell? ⟨b, 2, none⟩ = some v2 ∧ w'.cell? ⟨b, 3, none⟩ = some v3 ∧ w'.cell? ⟨b, 4, none⟩ = some v4 ∧ w'.cell? ⟨b, 5, none⟩ = some v5 ∧ w'.cell? ⟨b, 6, none⟩ = some v6 ∧ w'.cell? ⟨b, 7, none⟩ = some v7 ∧ Below w.heap.size w w') (hb : Below w'.heap.size w' w'') : w''.cell? ⟨b, 0, none⟩ = some v0 ∧ w''.cell? ⟨b, 1, none⟩ = some v1 ∧ w''.cell? ⟨b, 2, none⟩ = some v2 ∧ w''.cell? ⟨b, 3, none⟩ = some v3 ∧ w''.cell? ⟨b, 4, none⟩ = some v4 ∧ w''.cell? ⟨b, 5, none⟩ = some v5 ∧ w''.cell? ⟨b, 6, none⟩ = some v6 ∧ w''.cell? ⟨b, 7, none⟩ = some v7 ∧ Below w.heap.size w w'' := by
  obtain ⟨k0, k1, k2, k3, k4, k5, k6, k7, hw⟩ := h
  exact ⟨(hb.cell (cell_lt k0)).trans k0, (hb.cell (cell_lt k1)).trans k1, (hb.cell (cell_lt k2)).trans k2, (hb.cell (cell_lt k3)).trans k3, (hb.cell (cell_lt k4)).trans k4, (hb.cell (cell_lt k5)).trans k5, (hb.cell (cell_lt k6)).trans k6, (hb.cell (cell_lt k7)).trans k7, below_grow hw hw.size hb⟩
def dfB (r : Rg) : Bool := rgEq r.nm ⟨#[]⟩ r.top r.ht r.lf r.wd 11 4 0 32 (r.al : Int) 2 r.bot true
def usB (r : Rg) : Bool := dfB r || (rgE r == 0)
set_option maxHeartbeats 4000000 in
set_option maxRecDepth 100000 in
theorem usable_any (r : Rg) (hr : r.ok) (w : World) : Calls Tryz.prog 100 #[r.v] w fun e w' => e = .returned (.bool (usB r)) ∧ Below w.heap.size w w' := by
  have cC := fun w => rcheck_any r hr w
  have hd : rgEq r.nm ⟨#[]⟩ r.top r.ht r.lf r.wd 11 4 0 32 (r.al : Int) 2 r.bot true = dfB r := rfl
  have hU : usB r = (dfB r || (rgE r == 0)) := rfl
  rw [hU]
  clear hU
  unfold Rg.v at *
  generalize dfB r = D at *
  generalize rgE r = E at *
  generalize r.nm = x0 at *
  generalize r.top = x1 at *
  generalize r.ht = x2 at *
  generalize r.lf = x3 at *
  generalize r.wd = x4 at *
  generalize r.al = x5 at *
  generalize r.bot = x6 at *
  cases D
  · go_enter Tryz.func100, Tryz.ntmps100
    go_wp2_with fail
    refine world_as (fun W => Below w.heap.size w W ∧ W.heap[w.heap.size]? = some (.cells #[.string x0, .int .i64 x1, .int .i64 x2, .int .i64 x3, .int .i64 x4, .int .u8 (x5 : Int), .bool x6] 56 (0, 0))) ⟨below1 _ (Nat.le_refl _), heap_alloc_new w _⟩ ?_
    rintro W ⟨hbW, hB⟩
    obtain ⟨c0, c1, c2, c3, c4, c5, c6, hf, hlt⟩ := blk7 hB
    have HB := Lib.hid hB
    clear hB
    have hbd : Below w.heap.size w W.drew := hbW.drew
    go_region_held3 (fun w' => w'.cell? ⟨w.heap.size, 0, none⟩ = some (.string x0) ∧ w'.cell? ⟨w.heap.size, 1, none⟩ = some (.int .i64 x1) ∧ w'.cell? ⟨w.heap.size, 2, none⟩ = some (.int .i64 x2) ∧ w'.cell? ⟨w.heap.size, 3, none⟩ = some (.int .i64 x3) ∧ w'.cell? ⟨w.heap.size, 4, none⟩ = some (.int .i64 x4) ∧ w'.cell? ⟨w.heap.size, 5, none⟩ = some (.int .u8 (x5 : Int)) ∧ w'.cell? ⟨w.heap.size, 6, none⟩ = some (.bool x6) ∧ Below w.heap.size w w') (first | exact ⟨c0, c1, c2, c3, c4, c5, c6, hbd⟩ | exact keep7 (by assumption) hb | exact keep7 (by assumption) hb2)
      (first | ((go_at_call 96; refine (default_any _).mono ?_; rintro e w1 ⟨rfl, hb⟩)) | ((go_at_call 79; refine (cC _).mono ?_; rintro e w2 ⟨rfl, hb2⟩)))
    rename_i hH
    obtain ⟨_, _, _, _, _, _, _, hbb⟩ := hH
    go_wp2_with fail
    go_ret
    exact ⟨ret_bool (by simp), hbb⟩
  · go_enter Tryz.func100, Tryz.ntmps100
    go_wp2_with fail
    refine world_as (fun W => Below w.heap.size w W ∧ W.heap[w.heap.size]? = some (.cells #[.string x0, .int .i64 x1, .int .i64 x2, .int .i64 x3, .int .i64 x4, .int .u8 (x5 : Int), .bool x6] 56 (0, 0))) ⟨below1 _ (Nat.le_refl _), heap_alloc_new w _⟩ ?_
    rintro W ⟨hbW, hB⟩
    obtain ⟨c0, c1, c2, c3, c4, c5, c6, hf, hlt⟩ := blk7 hB
    have HB := Lib.hid hB
    clear hB
    have hbd : Below w.heap.size w W.drew := hbW.drew
    have hlt2 : w.heap.size < W.heap.size := hlt
    go_region_with ((go_at_call 96; refine (default_any _).mono ?_; rintro e w1 ⟨rfl, hb⟩; have k0 := (hb.cell (p := ⟨w.heap.size, 0, none⟩) hlt2).trans c0; have k1 := (hb.cell (p := ⟨w.heap.size, 1, none⟩) hlt2).trans c1; have k2 := (hb.cell (p := ⟨w.heap.size, 2, none⟩) hlt2).trans c2; have k3 := (hb.cell (p := ⟨w.heap.size, 3, none⟩) hlt2).trans c3; have k4 := (hb.cell (p := ⟨w.heap.size, 4, none⟩) hlt2).trans c4; have k5 := (hb.cell (p := ⟨w.heap.size, 5, none⟩) hlt2).trans c5; have k6 := (hb.cell (p := ⟨w.heap.size, 6, none⟩) hlt2).trans c6))
    all_goals
      go_wp2_with fail
      go_ret
      exact ⟨ret_bool (by simp), below_grow hbd hbd.size hb⟩
end Go.Proofs.YtgiaohccebolpaaGreatDoor
namespace Go.Proofs.YtgiaohccebolpaaGreatDoor
open Go Go.RowKit
open Go.Lib hiding intOf
set_option linter.unusedVariables false
theorem below_dn {B : Nat} {a w : World} (h : Below B a w) (n : Nat) : Below B a (w.drewN n) := ⟨h.os, h.tape, h.output, h.size, h.block⟩
/-! ### the first that is not 0 -/
def fnz (f : Nat → Int) : Nat → Nat → Int
  | _, 0 => 0
  | i, k + 1 => if f i = 0 then fnz f (i + 1) k else f i
theorem fnz_step (f : Nat → Int) (i n : Nat) (h : i < n) : fnz f i (n - i) = if f i = 0 then fnz f (i + 1) (n - (i + 1)) else f i := by
  obtain ⟨k, hk⟩ : ∃ k, n - i = k + 1 := ⟨n - i - 1, by omega⟩
  rw [hk, show n - (i + 1) = k by omega]; rfl
theorem fnz_end (f : Nat → Int) (n : Nat) : fnz f n (n - n) = 0 := by rw [Nat.sub_self]; rfl
theorem fnz_zero (f : Nat → Int) : ∀ (k i : Nat), fnz f i k = 0 ↔ ∀ j, i ≤ j → j < i + k → f j = 0
  | 0, i => by simp [fnz]; omega
  | k + 1, i => by
    unfold fnz
    by_cases h : f i = 0
    · rw [if_pos h, fnz_zero f k (i + 1)]
      constructor
      · intro g j h1 h2
        by_cases e : j = i
        · rw [e]; exact h
        · exact g j (by omega) (by omega)
      · intro g j h1 h2; exact g j (by omega) (by omega)
    · rw [if_neg h]
      exact ⟨fun g => absurd g h, fun g => absurd (g i (Nat.le_refl _) (by omega)) h⟩
/-! ### a list of regions -/
def rgSame (L : List Rg) (i : Nat) : Bool := (L.getD i default).nm.toList == (L.getD (i - 1) default).nm.toList
def rgLess (L : List Rg) (i : Nat) : Bool := Op.bytesLess (L.getD i default).nm.toList (L.getD (i - 1) default).nm.toList
def clS (L : List Rg) (i : Nat) : Int := if rgE (L.getD i default) = 0 then (if i = 0 then 0 else if rgSame L i = true then 7 else if rgLess L i = true then 8 else 0) else rgE (L.getD i default)
def clE (L : List Rg) : Int := if 16 < L.length then 9 else fnz (clS L) 0 L.length
theorem getD_ok {L : List Rg} (h : ∀ r ∈ L, r.ok) (i : Nat) (hi : i < L.length) : (L.getD i default).ok := by
  rw [getD_of hi]; exact h _ (List.getElem_mem hi)
set_option maxHeartbeats 8000000 in
set_option maxRecDepth 100000 in
theorem checkList_any (v : Value) (L : List Rg) (w : World) (hR : RgsR w v L) (hok : ∀ r ∈ L, r.ok) (hn : L.length ≤ 1048576) :
    Calls Tryz.prog 45 #[v] w fun e w' => e = .returned (.int .i64 (clE L)) ∧ Below w.heap.size w w' := by
  obtain ⟨a, c, rfl⟩ := RowR.len hR
  by_cases h16 : 16 < L.length
  · have hz : (16 : Int) < (L.length : Int) := by omega
    have e : clE L = 9 := by unfold clE; rw [if_pos h16]
    rw [e]
    clear e
    go_enter Tryz.func45, Tryz.ntmps45
    go_wp2
    go_ret
    exact ⟨rfl, Below.refl _ _⟩
  have hz : ¬ (16 : Int) < (L.length : Int) := by omega
  have hE : fnz (clS L) 0 (L.length - 0) = clE L := by unfold clE; rw [if_neg h16]; rfl
  have hS := fnz_step (clS L)
  have HS := Lib.hid hS
  have HE := Lib.hid hE
  have HO := Lib.hid hok
  have HR := Lib.hid hR
  generalize clE L = Z at *
  clear hS hE hok hR
  go_enter Tryz.func45, Tryz.ntmps45
  go_wp2_with fail
  go_loopw [11] (fun v wx => ∃ i : Nat, v = .int .i64 i ∧ i ≤ L.length ∧ Hid (fnz (clS L) i (L.length - i) = Z) ∧ Below w.heap.size w wx) (fun v _ => L.length - (intOf v).toNat)
  case atStart => exact ⟨0, rfl, Nat.zero_le _, HE, Below.refl _ _⟩
  case round =>
    clear HE
    obtain ⟨i, rfl, hi, HZ, hb⟩ := hrel
    by_cases hlt : i < L.length
    · have hiz : (i : Int) < (L.length : Int) := by omega
      have hR := HR.out.below hb
      obtain ⟨g, off, rfl, hg, _⟩ := hR.addr (by omega)
      obtain ⟨c0, c1, c2, c3, c4, c5, c6⟩ := RgsR.at hR rfl i hlt
      have cC := fun w => rcheck_any _ (getD_ok HO.out i hlt) w
      have hq := HZ.out
      rw [HS.out i L.length hlt] at hq
      have hcs : clS L i = if rgE (L.getD i default) = 0 then (if i = 0 then 0 else if rgSame L i = true then 7 else if rgLess L i = true then 8 else 0) else rgE (L.getD i default) := rfl
      rw [hcs] at hq
      have hsm : rgSame L i = ((L.getD i default).nm.toList == (L.getD (i - 1) default).nm.toList) := rfl
      have hls : rgLess L i = Op.bytesLess (L.getD i default).nm.toList (L.getD (i - 1) default).nm.toList := rfl
      have hpv : 0 < i → wr.cell? ⟨g, off + (i - 1) * 7, none⟩ = some (.string (L.getD (i - 1) default).nm) := fun h => (RgsR.at hR rfl (i - 1) (by omega)).1
      unfold Rg.v at cC
      generalize rgE (L.getD i default) = E at *
      generalize (L.getD i default).nm = x0 at *
      generalize (L.getD i default).top = x1 at *
      generalize (L.getD i default).ht = x2 at *
      generalize (L.getD i default).lf = x3 at *
      generalize (L.getD i default).wd = x4 at *
      generalize (L.getD i default).al = x5 at *
      generalize (L.getD i default).bot = x6 at *
      generalize (L.getD (i - 1) default).nm = y0 at *
      generalize rgSame L i = SM at *
      generalize rgLess L i = LS at *
      clear hcs hR
      by_cases hE0 : E = 0
      · subst hE0
        by_cases hi0 : i = 0
        · have hq2 : Hid (fnz (clS L) (i + 1) (L.length - (i + 1)) = Z) := Lib.hid (by rw [if_pos rfl, if_pos hi0, if_pos rfl] at hq; exact hq)
          clear hsm hls hpv hq HZ
          have hdz : decide (0 < i) = false := by simp; omega
          clear hi0
          go_wp2_with fail
          refine (cC _).mono ?_
          rintro e w1 ⟨rfl, hb1⟩
          have hbn := below_grow (hb.alloc hb.size (.cells #[.string x0, .int .i64 x1, .int .i64 x2, .int .i64 x3, .int .i64 x4, .int .u8 (x5 : Int), .bool x6] 56)) (by have := hb.size; simp; omega) hb1
          go_wp2_with fail
          go_quiet (fail)
          go_wp2_with fail
          go_quiet (fail)
          go_wp2_with fail
          go_roundw
          case rel => exact ⟨i + 1, by go_num, by omega, hq2, below_dn hbn _⟩
          case measure => simp [intOf]; omega
        · have hdz : 0 < i := by omega
          have hdi : (1 : Int) ≤ (i : Int) := by omega
          have hdl : (i : Int) - 1 < (L.length : Int) := by omega
          have hp := hpv (by omega)
          rw [if_pos rfl, if_neg hi0] at hq
          by_cases hsm1 : SM = true
          · have hq2 : Hid (7 = Z) := Lib.hid (by rw [hsm1] at hq; exact hq)
            have hsz : (x0.toList == y0.toList) = true := by rw [← hsm]; exact hsm1
            clear hq hsm1
            clear hsm hls hpv HZ
            go_wp2_with fail
            refine (cC _).mono ?_
            rintro e w1 ⟨rfl, hb1⟩
            have hbn := below_grow (hb.alloc hb.size (.cells #[.string x0, .int .i64 x1, .int .i64 x2, .int .i64 x3, .int .i64 x4, .int .u8 (x5 : Int), .bool x6] 56)) (by have := hb.size; simp; omega) hb1
            have hp1 := (hb1.cell (p := ⟨g, off + (i - 1) * 7, none⟩) (by have := cell_lt hp; simp; omega)).trans ((Below.cell (below1 _ (Nat.le_refl _)) (p := ⟨g, off + (i - 1) * 7, none⟩) (cell_lt hp)).trans hp)
            have k0 : w1.cell? ⟨wr.heap.size, 0, none⟩ = some (.string x0) := (hb1.cell (p := ⟨wr.heap.size, 0, none⟩) (by simp)).trans (World.cell?_alloc_at _ _ _ _ rfl)
            go_wp2_with fail
            go_quiet (fail)
            go_wp2_with fail
            go_ret
            exact ⟨ret_int hq2.out, by first | exact below_dn hbn _ | exact below_dn (below_dn hbn _) _⟩
          · have hsz : (x0.toList == y0.toList) = false := by rw [← hsm]; simpa using hsm1
            rw [if_neg hsm1] at hq
            by_cases hls1 : LS = true
            · have hq2 : Hid (8 = Z) := Lib.hid (by rw [hls1] at hq; exact hq)
              have hlz : Op.bytesLess x0.toList y0.toList = true := by rw [← hls]; exact hls1
              clear hq hls1 hsm1
              clear hsm hls hpv HZ
              go_wp2_with fail
              refine (cC _).mono ?_
              rintro e w1 ⟨rfl, hb1⟩
              have hbn := below_grow (hb.alloc hb.size (.cells #[.string x0, .int .i64 x1, .int .i64 x2, .int .i64 x3, .int .i64 x4, .int .u8 (x5 : Int), .bool x6] 56)) (by have := hb.size; simp; omega) hb1
              have hp1 := (hb1.cell (p := ⟨g, off + (i - 1) * 7, none⟩) (by have := cell_lt hp; simp; omega)).trans ((Below.cell (below1 _ (Nat.le_refl _)) (p := ⟨g, off + (i - 1) * 7, none⟩) (cell_lt hp)).trans hp)
              have k0 : w1.cell? ⟨wr.heap.size, 0, none⟩ = some (.string x0) := (hb1.cell (p := ⟨wr.heap.size, 0, none⟩) (by simp)).trans (World.cell?_alloc_at _ _ _ _ rfl)
              go_wp2_with fail
              go_quiet (fail)
              go_wp2_with fail
              go_quiet (fail)
              go_wp2_with fail
              go_ret
              exact ⟨ret_int hq2.out, by first | exact below_dn hbn _ | exact below_dn (below_dn hbn _) _⟩
            · have hlz : Op.bytesLess x0.toList y0.toList = false := by rw [← hls]; simpa using hls1
              have hq2 : Hid (fnz (clS L) (i + 1) (L.length - (i + 1)) = Z) := Lib.hid (by rw [if_neg hls1, if_pos rfl] at hq; exact hq)
              clear hq hls1 hsm1
              clear hsm hls hpv HZ
              go_wp2_with fail
              refine (cC _).mono ?_
              rintro e w1 ⟨rfl, hb1⟩
              have hbn := below_grow (hb.alloc hb.size (.cells #[.string x0, .int .i64 x1, .int .i64 x2, .int .i64 x3, .int .i64 x4, .int .u8 (x5 : Int), .bool x6] 56)) (by have := hb.size; simp; omega) hb1
              have hp1 := (hb1.cell (p := ⟨g, off + (i - 1) * 7, none⟩) (by have := cell_lt hp; simp; omega)).trans ((Below.cell (below1 _ (Nat.le_refl _)) (p := ⟨g, off + (i - 1) * 7, none⟩) (cell_lt hp)).trans hp)
              have k0 : w1.cell? ⟨wr.heap.size, 0, none⟩ = some (.string x0) := (hb1.cell (p := ⟨wr.heap.size, 0, none⟩) (by simp)).trans (World.cell?_alloc_at _ _ _ _ rfl)
              go_wp2_with fail
              go_quiet (fail)
              go_wp2_with fail
              go_quiet (fail)
              go_wp2_with fail
              go_roundw
              case rel => exact ⟨i + 1, by go_num, by omega, hq2, below_dn hbn _⟩
              case measure => simp [intOf]; omega
      · have hq2 := Lib.hid hq
        have hEz : (E == 0) = false := by simpa using hE0
        clear hsm hls hpv hq
        go_wp2_with fail
        refine (cC _).mono ?_
        rintro e w1 ⟨rfl, hb1⟩
        go_wp2_with fail
        go_ret
        exact ⟨ret_int (by have h := hq2.out; rw [if_neg hE0, if_neg hE0] at h; exact h), below_grow (hb.alloc hb.size _) (by have := hb.size; simp; omega) hb1⟩
    · obtain rfl : i = L.length := by omega
      have hq := HZ.out
      rw [fnz_end] at hq
      have HQ := Lib.hid hq
      clear hq HZ
      have hiz : ¬ (L.length : Int) < (L.length : Int) := by omega
      go_wp2_with fail
      go_ret
      exact ⟨ret_int HQ.out, hb⟩
end Go.Proofs.YtgiaohccebolpaaGreatDoor
