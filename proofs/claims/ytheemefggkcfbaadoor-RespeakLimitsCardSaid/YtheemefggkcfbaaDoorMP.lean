import Derived.Test.YtheemefggkcfbaaDoorMC
import Derived.Test.YtheemefggkcfbaaDoorME
import Derived.Deep.RegionHeld3
namespace Go.Proofs.YtheemefggkcfbaaDoor
open Go
section
variable {P : Program} {ops : Array Oper} {Q : Exit → Act → World → Prop} {md : Region.Mode} {S : World → Prop} {m : Nat}
/-- Two may come up. -/
theorem wpAnyT_two {i j : Nat} {oi oj : Oper} {fuel : Nat} {listed : Array Bool} {a : Act} {w : World} (hr : Region.ready md ops listed = [i, j]) (hi : ops[i]? = some oi) (hj : ops[j]? = some oj)
    (h1 : ∀ K' : Act → World → Prop, Shut (∀ a w, S w → (S w → wpAnyT P md ops Q S m fuel (listed.setIfInBounds i true) a w) → K' a w) → if Region.wanted oi (yielded ops a.tmps) = true then Oper.wp P oi a w K' Q else K' (a.put oi.dst undef) w)
    (h2 : ∀ K' : Act → World → Prop, Shut (∀ a w, S w → (S w → wpAnyT P md ops Q S m fuel (listed.setIfInBounds j true) a w) → K' a w) → if Region.wanted oj (yielded ops a.tmps) = true then Oper.wp P oj a w K' Q else K' (a.put oj.dst undef) w) :
    wpAnyT P md ops Q S m (fuel + 1) listed a w := by
  refine ⟨fun h0 => (by rw [h0] at hr; cases hr), fun k hk => ?_⟩
  rw [hr, List.mem_cons, List.mem_singleton] at hk
  rcases hk with rfl | rfl
  · exact wpOp_step hi (fun K' hK => h1 K' (fun a w hS hW => hK a w ⟨fun _ => hS, hW hS⟩))
  · exact wpOp_step hj (fun K' hK => h2 K' (fun a w hS hW => hK a w ⟨fun _ => hS, hW hS⟩))
/-- The world at hand, said in words of one's own. -/
theorem anyT_as {fuel : Nat} {listed : Array Bool} {a : Act} {w : World} (F : World → Prop) (h : F w) (k : ∀ W, F W → wpAnyT P md ops Q S m fuel listed a W) : wpAnyT P md ops Q S m fuel listed a w := k w h
end
end Go.Proofs.YtheemefggkcfbaaDoor
namespace Go.Proofs.YtheemefggkcfbaaDoor
open Go Go.Lib Go.RowKit Go.Shelf
/-! ### the reference's Take -/
theorem RowR.far {w : World} {size n k o : Nat} {v u : Value} {xs : List Value} (h : RowR w size v n xs) (hk : v.ownBlock ≠ some k) : RowR (w.setCell ⟨k, o, none⟩ u) size v n xs :=
  h.kept (by simp) (fun j hj => heap_setCell_other w ⟨k, o, none⟩ j u (by intro e; subst e; exact hk hj))
abbrev z3 : Array Value := #[.string ⟨#[]⟩, .bool false, .bool false]
abbrev s3 (X : Spk) : Array Value := #[.string (ba X.1), .bool X.2.1, .bool X.2.2]
def rtO (w : World) (K : Nat → Prop) (B : Nat) : Nat → Prop := fun k => (K k ∧ k < w.heap.size) ∨ B < k
def RTk (w : World) (K : Nat → Prop) (B : Nat) (X : Spk) (wx : World) (S : Sp) : Prop :=
  ∃ vo vt, wx.heap[w.heap.size]? = some (.cells (rc S.hold vo S.mark S.free vt S.brk) 67 (0, 0)) ∧ RowR wx 3 vo S.opn.length (scells S.opn) ∧ RowR wx 1 vt S.tkn.length (wcells S.tkn) ∧ (∀ k, vo.ownBlock = some k → rtO w K B k) ∧ (∀ k, vt.ownBlock = some k → rtO w K B k) ∧
    wx.heap[w.heap.size + 1]? = some (.cells rz 67 (0, 0)) ∧ wx.heap[w.heap.size + 2]? = some (.cells z3 59 (0, 0)) ∧ wx.heap[B]? = some (.cells (s3 X) 59 (0, 0)) ∧ w.heap.size + 2 < B ∧ Below w.heap.size w wx
section
variable {w W W' : World} {K : Nat → Prop} {B : Nat} {X : Spk} {S : Sp}
theorem rtO_ne {k j : Nat} (h : rtO w K B k) (hj : w.heap.size ≤ j) (hB : j ≤ B) : k ≠ j := by
  rintro rfl
  rcases h with h | h
  · omega
  · omega
theorem RTk.step (h : RTk w K B X W S) (hb : Below W.heap.size W W') : RTk w K B X W' S := by
  obtain ⟨vo, vt, h1, h2, h3, h4, h5, h6, h7, h8, h9, h10⟩ := h
  exact ⟨vo, vt, blk_stay h1 hb, h2.below hb, h3.below hb, h4, h5, blk_stay h6 hb, blk_stay h7 hb, blk_stay h8 hb, h9, h10.trans (hb.mono h10.size)⟩
theorem far_blk {k o j : Nat} {u : Value} {ob : Obj} (h : W.heap[j]? = some ob) (hk : k ≠ j) : (W.setCell ⟨k, o, none⟩ u).heap[j]? = some ob := by
  rw [heap_setCell_other W ⟨k, o, none⟩ j u (by intro e; exact hk (by rw [e]))]
  exact h
theorem RTk.mark {m : Bool} (h : RTk w K B X W S) : RTk w K B X (W.setCell ⟨w.heap.size, 2, none⟩ (.bool m)) { S with mark := m } := by
  obtain ⟨vo, vt, h1, h2, h3, h4, h5, h6, h7, h8, h9, h10⟩ := h
  exact ⟨vo, vt, blk_set h1, h2.far (fun e => rtO_ne (h4 _ e) (Nat.le_refl _) (by omega) rfl), h3.far (fun e => rtO_ne (h5 _ e) (Nat.le_refl _) (by omega) rfl), h4, h5, far_blk h6 (by omega), far_blk h7 (by omega), far_blk h8 (by omega), h9, h10.setCell (Nat.le_refl _) _⟩
theorem RTk.free {f : Nat} (h : RTk w K B X W S) : RTk w K B X (W.setCell ⟨w.heap.size, 3, none⟩ (.int .i64 (f : Int))) { S with free := f } := by
  obtain ⟨vo, vt, h1, h2, h3, h4, h5, h6, h7, h8, h9, h10⟩ := h
  exact ⟨vo, vt, blk_set h1, h2.far (fun e => rtO_ne (h4 _ e) (Nat.le_refl _) (by omega) rfl), h3.far (fun e => rtO_ne (h5 _ e) (Nat.le_refl _) (by omega) rfl), h4, h5, far_blk h6 (by omega), far_blk h7 (by omega), far_blk h8 (by omega), h9, h10.setCell (Nat.le_refl _) _⟩
theorem own_ne {e s n k : Nat} {v : Value} {xs : List Value} (ho : W.ownsRow (B + 1) e s v n xs) (hk : k ≤ B) : v.ownBlock ≠ some k := fun e => by have := own_from ho e; omega
theorem RTk.opn {v : Value} {l : List Spk} (h : RTk w K B X W S) (ho : W.ownsRow (B + 1) 59 3 v l.length (scells l)) : RTk w K B X (W.setCell ⟨w.heap.size, 1, none⟩ v) { S with opn := l } := by
  obtain ⟨vo, vt, h1, h2, h3, h4, h5, h6, h7, h8, h9, h10⟩ := h
  exact ⟨v, vt, blk_set h1, (RowR.of_own ho).far (own_ne ho (by omega)), h3.far (fun e => rtO_ne (h5 _ e) (Nat.le_refl _) (by omega) rfl), fun k hk => Or.inr (by have := own_from ho hk; omega), h5, far_blk h6 (by omega), far_blk h7 (by omega), far_blk h8 (by omega), h9, h10.setCell (Nat.le_refl _) _⟩
theorem RTk.tkn {v : Value} {l : List (List UInt8)} (h : RTk w K B X W S) (ho : W.ownsRow (B + 1) 9 1 v l.length (wcells l)) : RTk w K B X (W.setCell ⟨w.heap.size, 4, none⟩ v) { S with tkn := l } := by
  obtain ⟨vo, vt, h1, h2, h3, h4, h5, h6, h7, h8, h9, h10⟩ := h
  exact ⟨vo, v, blk_set h1, h2.far (fun e => rtO_ne (h4 _ e) (Nat.le_refl _) (by omega) rfl), (RowR.of_own ho).far (own_ne ho (by omega)), h4, fun k hk => Or.inr (by have := own_from ho hk; omega), far_blk h6 (by omega), far_blk h7 (by omega), far_blk h8 (by omega), h9, h10.setCell (Nat.le_refl _) _⟩
/-- Nine cells in two blocks, and a store elsewhere. -/
theorem s9_far {w' : World} {b0 B k o : Nat} {u a0 a1 a2 a3 a4 a5 y0 y1 y2 : Value} (h : w'.cell? ⟨b0, 0, none⟩ = some a0 ∧ w'.cell? ⟨b0, 1, none⟩ = some a1 ∧ w'.cell? ⟨b0, 2, none⟩ = some a2 ∧ w'.cell? ⟨b0, 3, none⟩ = some a3 ∧ w'.cell? ⟨b0, 4, none⟩ = some a4 ∧ w'.cell? ⟨b0, 5, none⟩ = some a5 ∧ w'.cell? ⟨B, 0, none⟩ = some y0 ∧ w'.cell? ⟨B, 1, none⟩ = some y1 ∧ w'.cell? ⟨B, 2, none⟩ = some y2) (hk : k ≠ b0) (hB : k ≠ B) :
    (w'.setCell ⟨k, o, none⟩ u).cell? ⟨b0, 0, none⟩ = some a0 ∧ (w'.setCell ⟨k, o, none⟩ u).cell? ⟨b0, 1, none⟩ = some a1 ∧ (w'.setCell ⟨k, o, none⟩ u).cell? ⟨b0, 2, none⟩ = some a2 ∧ (w'.setCell ⟨k, o, none⟩ u).cell? ⟨b0, 3, none⟩ = some a3 ∧ (w'.setCell ⟨k, o, none⟩ u).cell? ⟨b0, 4, none⟩ = some a4 ∧ (w'.setCell ⟨k, o, none⟩ u).cell? ⟨b0, 5, none⟩ = some a5 ∧ (w'.setCell ⟨k, o, none⟩ u).cell? ⟨B, 0, none⟩ = some y0 ∧ (w'.setCell ⟨k, o, none⟩ u).cell? ⟨B, 1, none⟩ = some y1 ∧ (w'.setCell ⟨k, o, none⟩ u).cell? ⟨B, 2, none⟩ = some y2 := by
  have f : ∀ j i, k ≠ j → (w'.setCell ⟨k, o, none⟩ u).cell? ⟨j, i, none⟩ = w'.cell? ⟨j, i, none⟩ := fun j i hj => World.cell?_setCell_far _ _ _ _ hj
  obtain ⟨h0, h1, h2, h3, h4, h5, h6, h7, h8⟩ := h
  exact ⟨(f _ _ hk).trans h0, (f _ _ hk).trans h1, (f _ _ hk).trans h2, (f _ _ hk).trans h3, (f _ _ hk).trans h4, (f _ _ hk).trans h5, (f _ _ hB).trans h6, (f _ _ hB).trans h7, (f _ _ hB).trans h8⟩
theorem s9_drew {w' : World} {b0 B : Nat} {a0 a1 a2 a3 a4 a5 y0 y1 y2 : Value} (h : w'.cell? ⟨b0, 0, none⟩ = some a0 ∧ w'.cell? ⟨b0, 1, none⟩ = some a1 ∧ w'.cell? ⟨b0, 2, none⟩ = some a2 ∧ w'.cell? ⟨b0, 3, none⟩ = some a3 ∧ w'.cell? ⟨b0, 4, none⟩ = some a4 ∧ w'.cell? ⟨b0, 5, none⟩ = some a5 ∧ w'.cell? ⟨B, 0, none⟩ = some y0 ∧ w'.cell? ⟨B, 1, none⟩ = some y1 ∧ w'.cell? ⟨B, 2, none⟩ = some y2) :
    w'.drew.cell? ⟨b0, 0, none⟩ = some a0 ∧ w'.drew.cell? ⟨b0, 1, none⟩ = some a1 ∧ w'.drew.cell? ⟨b0, 2, none⟩ = some a2 ∧ w'.drew.cell? ⟨b0, 3, none⟩ = some a3 ∧ w'.drew.cell? ⟨b0, 4, none⟩ = some a4 ∧ w'.drew.cell? ⟨b0, 5, none⟩ = some a5 ∧ w'.drew.cell? ⟨B, 0, none⟩ = some y0 ∧ w'.drew.cell? ⟨B, 1, none⟩ = some y1 ∧ w'.drew.cell? ⟨B, 2, none⟩ = some y2 := h
/-- At the end: the two results are written. -/
theorem RTk.fin {vo vt x y z : Value} (h1 : W.heap[w.heap.size + 1]? = some (.cells rz 67 (0, 0))) (h2 : W.heap[w.heap.size + 2]? = some (.cells z3 59 (0, 0))) (hb : Below w.heap.size w W) {x0 x1 x2 x3 x4 x5 : Value}
    (r1 : RowR W 3 vo S.opn.length (scells S.opn)) (r2 : RowR W 1 vt S.tkn.length (wcells S.tkn)) (o1 : ∀ k, vo.ownBlock = some k → rtO w K B k) (o2 : ∀ k, vt.ownBlock = some k → rtO w K B k) (hB : w.heap.size + 2 < B) {WW : World}
    (hWW : WW = ((((((((W.setCell ⟨w.heap.size + 1, 0, none⟩ x0).setCell ⟨w.heap.size + 1, 1, none⟩ x1).setCell ⟨w.heap.size + 1, 2, none⟩ x2).setCell ⟨w.heap.size + 1, 3, none⟩ x3).setCell ⟨w.heap.size + 1, 4, none⟩ x4).setCell ⟨w.heap.size + 1, 5, none⟩ x5).setCell ⟨w.heap.size + 2, 0, none⟩ x).setCell ⟨w.heap.size + 2, 1, none⟩ y).setCell ⟨w.heap.size + 2, 2, none⟩ z) :
    WW.heap[w.heap.size + 1]? = some (.cells #[x0, x1, x2, x3, x4, x5] 67 (0, 0)) ∧ WW.heap[w.heap.size + 2]? = some (.cells #[x, y, z] 59 (0, 0)) ∧ Below w.heap.size w WW ∧ RowR WW 3 vo S.opn.length (scells S.opn) ∧ RowR WW 1 vt S.tkn.length (wcells S.tkn) := by
  subst hWW
  have n1 : ∀ {v : Value}, (∀ k, v.ownBlock = some k → rtO w K B k) → v.ownBlock ≠ some (w.heap.size + 1) := fun o e => rtO_ne (o _ e) (by omega) (by omega) rfl
  have n2 : ∀ {v : Value}, (∀ k, v.ownBlock = some k → rtO w K B k) → v.ownBlock ≠ some (w.heap.size + 2) := fun o e => rtO_ne (o _ e) (by omega) (by omega) rfl
  have f6 : ∀ {s n : Nat} {v : Value} {xs : List Value}, RowR W s v n xs → (∀ k, v.ownBlock = some k → rtO w K B k) → RowR ((((((((((W.setCell ⟨w.heap.size + 1, 0, none⟩ x0).setCell ⟨w.heap.size + 1, 1, none⟩ x1).setCell ⟨w.heap.size + 1, 2, none⟩ x2).setCell ⟨w.heap.size + 1, 3, none⟩ x3).setCell ⟨w.heap.size + 1, 4, none⟩ x4).setCell ⟨w.heap.size + 1, 5, none⟩ x5).setCell ⟨w.heap.size + 2, 0, none⟩ x).setCell ⟨w.heap.size + 2, 1, none⟩ y).setCell ⟨w.heap.size + 2, 2, none⟩ z)) s v n xs := fun h o =>
    ((((((((h.far (n1 o)).far (n1 o)).far (n1 o)).far (n1 o)).far (n1 o)).far (n1 o)).far (n2 o)).far (n2 o)).far (n2 o)
  refine ⟨far_blk (far_blk (far_blk (set6 h1) (by omega)) (by omega)) (by omega), set3 (far_blk (far_blk (far_blk (far_blk (far_blk (far_blk h2 (by omega)) (by omega)) (by omega)) (by omega)) (by omega)) (by omega)), ?_, f6 r1 o1, f6 r2 o2⟩
  exact (((rb6 hb (by omega)).setCell (by simp) _).setCell (by simp) _).setCell (by simp) _
/-- What the end of Take owes. -/
def RtEnd (w : World) (K : Nat → Prop) (B : Nat) (X : Spk) (S : Sp) (vo vt : Value) (WW : World) : Prop :=
  WW.heap[w.heap.size + 1]? = some (.cells (rc S.hold vo S.mark S.free vt S.brk) 67 (0, 0)) ∧ WW.heap[w.heap.size + 1 + 1]? = some (.cells (s3 X) 59 (0, 0)) ∧ Below w.heap.size w WW ∧ RowR WW 3 vo S.opn.length (scells S.opn) ∧ RowR WW 1 vt S.tkn.length (wcells S.tkn) ∧ (∀ k, vo.ownBlock = some k → rtO w K B k) ∧ (∀ k, vt.ownBlock = some k → rtO w K B k) ∧ w.heap.size + 2 < B
theorem RtEnd.drew {vo vt : Value} {WW : World} (h : RtEnd w K B X S vo vt WW) : RtEnd w K B X S vo vt WW.drew := ⟨h.1, h.2.1, h.2.2.1.drew, h.2.2.2.1, h.2.2.2.2.1, h.2.2.2.2.2⟩
theorem RTk.ends {vo vt : Value} (h1 : W.heap[w.heap.size + 1]? = some (.cells rz 67 (0, 0))) (h2 : W.heap[w.heap.size + 2]? = some (.cells z3 59 (0, 0))) (hb : Below w.heap.size w W)
    (r1 : RowR W 3 vo S.opn.length (scells S.opn)) (r2 : RowR W 1 vt S.tkn.length (wcells S.tkn)) (o1 : ∀ k, vo.ownBlock = some k → rtO w K B k) (o2 : ∀ k, vt.ownBlock = some k → rtO w K B k) (hB : w.heap.size + 2 < B) :
    RtEnd w K B X S vo vt (((((((((W.setCell ⟨w.heap.size + 1, 0, none⟩ (.int .i64 S.hold)).setCell ⟨w.heap.size + 1, 1, none⟩ vo).setCell ⟨w.heap.size + 1, 2, none⟩ (.bool S.mark)).setCell ⟨w.heap.size + 1, 3, none⟩ (.int .i64 S.free)).setCell ⟨w.heap.size + 1, 4, none⟩ vt).setCell ⟨w.heap.size + 1, 5, none⟩ (.bool S.brk)).setCell ⟨w.heap.size + 1 + 1, 0, none⟩ (.string (ba X.1))).setCell ⟨w.heap.size + 1 + 1, 1, none⟩ (.bool X.2.1)).setCell ⟨w.heap.size + 1 + 1, 2, none⟩ (.bool X.2.2)) := by
  obtain ⟨q1, q2, q3, q4, q5⟩ := RTk.fin (K := K) (B := B) (S := S) (x := .string (ba X.1)) (y := .bool X.2.1) (z := .bool X.2.2) (x0 := .int .i64 S.hold) (x1 := vo) (x2 := .bool S.mark) (x3 := .int .i64 S.free) (x4 := vt) (x5 := .bool S.brk) h1 h2 hb r1 r2 o1 o2 hB rfl
  exact ⟨q1, q2, q3, q4, q5, o1, o2, hB⟩
theorem RtEnd.rf {vo vt : Value} {WW : World} (h : RtEnd w K B X S vo vt WW) : RfAt WW (up K w) (rv S.hold vo S.mark S.free vt S.brk) S :=
  ⟨vo, vt, rfl, h.2.2.2.1, h.2.2.2.2.1, fun k hk => by
    rcases h.2.2.2.2.2.1 k hk with q | q
    · exact Or.inl q.1
    · have := h.2.2.2.2.2.2.2; exact Or.inr (by omega), fun k hk => by
    rcases h.2.2.2.2.2.2.1 k hk with q | q
    · exact Or.inl q.1
    · have := h.2.2.2.2.2.2.2; exact Or.inr (by omega)⟩
end
end Go.Proofs.YtheemefggkcfbaaDoor
namespace Go.Proofs.YtheemefggkcfbaaDoor
open Go Go.Lib Go.RowKit Go.Shelf
theorem lit_at (W : World) (n base : Nat) (h : W.heap.size = n) (hb : base ≤ n) : (W.alloc (.cells #[] 9)).ownsRow base 9 1 (.slice (some ⟨n, 0, none⟩) 0 0) 0 [] := by
  subst h
  exact World.ownsRow_lit (base := base) (e := 9) (size := 1) W #[] 0 hb (by unfold maxLen; omega) rfl
theorem heap_new2 (W : World) (o o' : Obj) : ((W.alloc o).alloc o').drew.heap[W.heap.size + 1]? = some o' := by
  have h := heap_alloc_new (W.alloc o) o'
  have e : (W.alloc o).heap.size = W.heap.size + 1 := by simp
  rw [e] at h
  exact h
theorem heap_old2 (W : World) (o o' : Obj) : ((W.alloc o).alloc o').drew.heap[W.heap.size]? = some o := by
  have h : ((W.alloc o).alloc o').heap[W.heap.size]? = some o := blk_stay (heap_alloc_new W o) (below1 o' (Nat.le_refl _))
  exact h
set_option maxHeartbeats 8000000 in
set_option maxRecDepth 100000 in
theorem rtake_any (w : World) (K : Nat → Prop) (v : Value) (S : Sp) (h : RfAt w K v S) (hS : S.ok) :
    Calls Tryd.prog 83 #[v] w fun e w' => ∃ v', e = .returned (.tuple #[v', spkV S.peek, .bool S.can]) ∧ RfAt w' (up K w) v' S.take ∧ Below w.heap.size w w' := by
  have cP := fun W h => rpeek_any W K v S h hS
  have Hn := Lib.hid (@take_none S)
  have Hm := Lib.hid (@take_mark S)
  have Hw := Lib.hid (@take_word S)
  have Hl := Lib.hid (@can_len S)
  have HF := Lib.hid h
  have HS := Lib.hid hS
  obtain ⟨vo, vt, rfl, h1, h2, h3, h4⟩ := h
  obtain ⟨ao, co, rfl⟩ := h1.len
  obtain ⟨at4, ct4, rfl⟩ := h2.len
  have H1 := Lib.hid (And.intro h1 (And.intro h2 (And.intro h3 h4)))
  clear h1 h2 h3 h4 hS
  have hA1 := heap_alloc_new w (.cells (rc S.hold (.slice ao S.opn.length co) S.mark S.free (.slice at4 S.tkn.length ct4) S.brk) 67)
  have hA2 := heap_alloc_new (w.alloc (.cells (rc S.hold (.slice ao S.opn.length co) S.mark S.free (.slice at4 S.tkn.length ct4) S.brk) 67)) (.cells rz 67)
  have hA3 := heap_alloc_new ((w.alloc (.cells (rc S.hold (.slice ao S.opn.length co) S.mark S.free (.slice at4 S.tkn.length ct4) S.brk) 67)).alloc (.cells rz 67)) (.cells z3 59)
  have e1 : (w.alloc (.cells (rc S.hold (.slice ao S.opn.length co) S.mark S.free (.slice at4 S.tkn.length ct4) S.brk) 67)).heap.size = w.heap.size + 1 := by simp
  have e2 : ((w.alloc (.cells (rc S.hold (.slice ao S.opn.length co) S.mark S.free (.slice at4 S.tkn.length ct4) S.brk) 67)).alloc (.cells rz 67)).heap.size = w.heap.size + 2 := by simp
  rw [e1] at hA2
  rw [e2] at hA3
  have hb0 : Below w.heap.size w (((w.alloc (.cells (rc S.hold (.slice ao S.opn.length co) S.mark S.free (.slice at4 S.tkn.length ct4) S.brk) 67)).alloc (.cells rz 67)).alloc (.cells z3 59)) := ((below1 _ (Nat.le_refl _)).alloc (by simp) _).alloc (by simp; omega) _
  have hA1 := blk_stay (blk_stay hA1 (below1 (.cells rz 67) (Nat.le_refl _))) (below1 (.cells z3 59) (Nat.le_refl _))
  have hA2 := blk_stay hA2 (below1 (.cells z3 59) (Nat.le_refl _))
  have K0 := Lib.hid (And.intro hA1 (And.intro hA2 (And.intro hA3 hb0)))
  clear hA1 hA2 hA3 e1 e2 hb0
  go_enter Tryd.func83, Tryd.ntmps83
  go_wp2_with fail
  refine (cP _ (HF.out.below K0.out.2.2.2)).mono ?_
  rintro e w1 ⟨rfl, hb1⟩
  rw [spkV_ba]
  generalize hX' : S.peek = X
  have hX := Lib.hid hX'
  have HN : Hid (S.peek.1 = X.1) := Lib.hid (by rw [hX'])
  clear hX' cP
  obtain ⟨k1, k2, k3, k4⟩ := K0.out
  have hbz : w.heap.size + 2 < w1.heap.size := by have := heap_lt k3; have := hb1.size; omega
  go_upto_if 13 with fail
  refine world_as (fun W => RTk w K w1.heap.size X W S) ⟨_, _, blk_stay (blk_stay k1 hb1) (below1 _ (Nat.le_refl _)), (H1.out.1.below ((k4.trans (hb1.mono k4.size)))).alloc _, (H1.out.2.1.below ((k4.trans (hb1.mono k4.size)))).alloc _, fun k hk => Or.inl ⟨H1.out.2.2.1 k hk, H1.out.1.lt hk⟩, fun k hk => Or.inl ⟨H1.out.2.2.2 k hk, H1.out.2.1.lt hk⟩, blk_stay (blk_stay k2 hb1) (below1 _ (Nat.le_refl _)), blk_stay (blk_stay k3 hb1) (below1 _ (Nat.le_refl _)), heap_alloc_new w1 _, hbz, (k4.trans (hb1.mono k4.size)).alloc (by omega) _⟩ ?_
  clear k1 k2 k3 k4 K0 H1 HF
  clear hb1
  generalize w1.heap.size = B at *
  clear w1
  intro W hT
  have HT := Lib.hid hT
  obtain ⟨vo, vt, h1, h2, h3, h4, h5, h6, h7, h8, h9, h10⟩ := hT
  obtain ⟨ao, co, rfl⟩ := h2.len
  obtain ⟨at4, ct4, rfl⟩ := h3.len
  obtain ⟨c0, c1, c2, c3, c4, c5, hf, hlt⟩ := blk_facts h1
  obtain ⟨r0, r1, r2, r3, r4, r5, rf, rlt⟩ := blk_facts h6
  have h7' : W.heap[w.heap.size + 1 + 1]? = some (.cells z3 59 (0, 0)) := h7
  obtain ⟨z0, z1, z2, zf, zlt⟩ := blk3 h7'
  obtain ⟨x0, x1, x2, xf, xlt⟩ := blk3 h8
  have n1 : w.heap.size ≠ B := by omega
  have n2 : B ≠ w.heap.size := by omega
  have n3 : w.heap.size + 1 ≠ B := by omega
  have n4 : w.heap.size + 1 + 1 ≠ B := by omega
  have n5 : B ≠ w.heap.size + 1 := by omega
  have n6 : B ≠ w.heap.size + 1 + 1 := by omega
  rcases Bool.eq_false_or_eq_true S.can with hcan | hcan
  · have hl := Hl.out hcan
    have hn4 := HS.out.len
    have hf4 := HS.out.free
    have ht8 := HS.out.tkn
    have HC := Lib.hid hcan
    have Hm2 := Lib.hid (Hm.out hcan)
    have Hw2 := Lib.hid (Hw.out hcan)
    have HTK : Hid (S.take = { S with opn := S.opn.drop 1, free := S.free - 1, mark := false, tkn := if S.mark = true then S.tkn else last8 (S.tkn ++ [X.1]) }) := Lib.hid (by
      cases hm : S.mark
      · rw [(Hw2.out hm).1, HN.out]; simp
      · rw [(Hm2.out hm).1]; simp)
    rw [hcan]
    clear hcan Hn Hm Hw Hl Hm2 Hw2
    obtain ⟨D, hD⟩ : ∃ D, D = S.opn.drop 1 := ⟨_, rfl⟩
    have HDD := Lib.hid hD
    rw [← hD] at HTK
    clear hD
    generalize hM : S.mark = M at *
    have HMM := Lib.hid hM
    clear hM
    go_upto_if 18 with fail
    go_cut [] (fun wx => RTk w K B X wx { S with tkn := if M = true then S.tkn else last8 (S.tkn ++ [X.1]) })
    case first =>
      cases M
      · have HG : Hid ((if false = true then S.tkn else last8 (S.tkn ++ [X.1])) = last8 (S.tkn ++ [X.1])) := Lib.hid (by simp)
        go_wp2_with fail
        obtain ⟨i0, hi, iz0, iz1, iz2⟩ := info_parts info9
        have HL1 : Hid ((S.tkn ++ [X.1]).length = S.tkn.length + 1) := Lib.hid (by simp)
        have hBW : B < W.heap.size := xlt
        clear c0 c1 c2 c3 c5 r0 r1 r2 r3 r4 r5 rf rlt z0 z1 z2 zf zlt x1 x2 xf h1 h2 h4 h5 h6 h7 h7' h8 h10
        refine wp_region_tail 9 (S := (fun w' => w'.cell? ⟨w.heap.size, 4, none⟩ = some (.slice at4 S.tkn.length ct4) ∧ w'.cell? ⟨B, 0, none⟩ = some (.string (ba X.1)))) (by kernel_rfl) ⟨c4, x0⟩ (fun hHeld => ?_)
        simp only [List.size_toArray, List.length_cons, List.length_nil, Nat.zero_add, Nat.reduceAdd]
        refine wpAnyT_take (i := 1) (oi := { dst := some 20, op := Go.Op.fieldAddr 67 (Go.Operand.tmp 1) 4, type := 0, pos := "ref.go:125", after := #[], guard := none }) (v := ?_) rfl (by kernel_rfl) (by kernel_rfl) (by kernel_rfl) (by kernel_rfl) (fun _ _ _ h => h) (Or.inl ⟨by rfl, ?_⟩) (by assumption) ?_
        rotate_left
        · intro w hSw
          (try dsimp only at hSw)
          go_simp
          all_goals (with_reducible rfl)
        try simp only [Act.put, List.setIfInBounds_toArray, List.set_cons_zero, List.set_cons_succ]
        refine wpAnyT_take (i := 2) (oi := { dst := some 21, op := Go.Op.load 42 (Go.Operand.tmp 20), type := 42, pos := "ref.go:125", after := #[{ on := 1, ground := Go.Ground.data }], guard := none }) (v := ?_) rfl (by kernel_rfl) (by kernel_rfl) (by kernel_rfl) (by kernel_rfl) (fun _ _ _ h => h) (Or.inl ⟨by rfl, ?_⟩) (by assumption) ?_
        rotate_left
        · intro w hSw
          (try dsimp only at hSw)
          go_simp
          all_goals (with_reducible rfl)
        try simp only [Act.put, List.setIfInBounds_toArray, List.set_cons_zero, List.set_cons_succ]
        refine wpAnyT_take (i := 4) (oi := { dst := some 23, op := Go.Op.fieldAddr 59 (Go.Operand.tmp 5) 0, type := 0, pos := "ref.go:125", after := #[], guard := none }) (v := ?_) rfl (by kernel_rfl) (by kernel_rfl) (by kernel_rfl) (by kernel_rfl) (fun _ _ _ h => h) (Or.inl ⟨by rfl, ?_⟩) (by assumption) ?_
        rotate_left
        · intro w hSw
          (try dsimp only at hSw)
          go_simp
          all_goals (with_reducible rfl)
        try simp only [Act.put, List.setIfInBounds_toArray, List.set_cons_zero, List.set_cons_succ]
        refine wpAnyT_take (i := 5) (oi := { dst := some 24, op := Go.Op.load 9 (Go.Operand.tmp 23), type := 9, pos := "ref.go:125", after := #[{ on := 4, ground := Go.Ground.data }], guard := none }) (v := ?_) rfl (by kernel_rfl) (by kernel_rfl) (by kernel_rfl) (by kernel_rfl) (fun _ _ _ h => h) (Or.inl ⟨by rfl, ?_⟩) (by assumption) ?_
        rotate_left
        · intro w hSw
          (try dsimp only at hSw)
          go_simp
          all_goals (with_reducible rfl)
        try simp only [Act.put, List.setIfInBounds_toArray, List.set_cons_zero, List.set_cons_succ]
        refine wpAnyT_two (i := 0) (j := 6) (oi := { dst := some 19, op := Go.Op.buildSlice 42 0 #[], type := 42, pos := "ref.go:125", after := #[], guard := none }) (oj := { dst := some 25, op := Go.Op.buildSlice 42 1 #[(0, Go.Operand.tmp 24)], type := 42, pos := "ref.go:125", after := #[{ on := 5, ground := Go.Ground.data }], guard := none }) (by kernel_rfl) rfl rfl (fun K hK => ?_) (fun K hK => ?_)
        · go_simp
          refine hK.out _ _ ⟨(((below1 (B := W.heap.size) (w := W) (.cells #[] 9) (Nat.le_refl _)).drew).cell (p := ⟨w.heap.size, 4, none⟩) hlt).trans c4, (((below1 (B := W.heap.size) (w := W) (.cells #[] 9) (Nat.le_refl _)).drew).cell (p := ⟨B, 0, none⟩) xlt).trans x0⟩ (fun hHeld => ?_)
          clear hK K
          try simp only [Act.put, List.setIfInBounds_toArray, List.set_cons_zero, List.set_cons_succ]
          refine wpAnyT_two (i := 3) (j := 6) (oi := { dst := some 22, op := Go.Op.call { callee := Go.Callee.builtin Go.Builtin.append, args := #[Go.Operand.tmp 19, Go.Operand.tmp 21], argTypes := #[42, 42] }, type := 42, pos := "ref.go:125", after := #[{ on := 0, ground := Go.Ground.data }, { on := 2, ground := Go.Ground.data }], guard := none }) (oj := { dst := some 25, op := Go.Op.buildSlice 42 1 #[(0, Go.Operand.tmp 24)], type := 42, pos := "ref.go:125", after := #[{ on := 5, ground := Go.Ground.data }], guard := none }) (by kernel_rfl) rfl rfl (fun K hK => ?_) (fun K hK => ?_)
          · refine step_append_row (by rfl) _ _ _ (by rfl) W.heap.size 9 i0 _ 1 16 Tryd.underlying42 hi iz0 iz1 iz2 rfl (by omega) _ 0 [] (by rfl) ((World.ownsRow_lit (base := W.heap.size) (e := 9) (size := 1) W #[] 0 (Nat.le_refl _) (by unfold maxLen; omega) rfl).drew) _ S.tkn.length (wcells S.tkn) (by rfl) (h3.below ((below1 (B := W.heap.size) (w := W) (.cells #[] 9) (Nat.le_refl _)).drew)) (one_wcells _) (by unfold maxLen; omega) (by omega) (((below1 (B := W.heap.size) (w := W) (.cells #[] 9) (Nat.le_refl _)).drew)).size ?_
            intro v3 w3 hown3 hgrow3 _
            rw [Nat.zero_add, List.nil_append] at hown3
            obtain ⟨a3, e3, rfl⟩ := own_len hown3
            have hb3 := app_step ((World.ownsRow_lit (base := W.heap.size) (e := 9) (size := 1) W #[] 0 (Nat.le_refl _) (by unfold maxLen; omega) rfl).drew) ((below1 (B := W.heap.size) (w := W) (.cells #[] 9) (Nat.le_refl _)).drew) (((below1 (B := W.heap.size) (w := W) (.cells #[] 9) (Nat.le_refl _)).drew)).size hgrow3
            refine hK.out _ _ ⟨((hb3).cell (p := ⟨w.heap.size, 4, none⟩) hlt).trans c4, ((hb3).cell (p := ⟨B, 0, none⟩) xlt).trans x0⟩ (fun hHeld => ?_)
            clear hK K
            try simp only [Act.put, List.setIfInBounds_toArray, List.set_cons_zero, List.set_cons_succ]
            refine wpAnyT_one (i := 6) (o := { dst := some 25, op := Go.Op.buildSlice 42 1 #[(0, Go.Operand.tmp 24)], type := 42, pos := "ref.go:125", after := #[{ on := 5, ground := Go.Ground.data }], guard := none }) (by kernel_rfl) rfl (fun K hK => ?_)
            go_simp
            refine hK.out _ _ ⟨((hb3.alloc hb3.size (.cells #[.string (ba X.1)] 9)).cell (p := ⟨w.heap.size, 4, none⟩) hlt).trans c4, ((hb3.alloc hb3.size (.cells #[.string (ba X.1)] 9)).cell (p := ⟨B, 0, none⟩) xlt).trans x0⟩ (fun hHeld => ?_)
            clear hK K
            try simp only [Act.put, List.setIfInBounds_toArray, List.set_cons_zero, List.set_cons_succ]
            refine anyT_as (fun W6 => W6.ownsRow W.heap.size 9 1 (.slice a3 S.tkn.length e3) S.tkn.length (wcells S.tkn) ∧ W6.heap[w3.heap.size]? = some (.cells #[.string (ba X.1)] 9 (0, 0)) ∧ Below W.heap.size W W6 ∧ (W6.cell? ⟨w.heap.size, 4, none⟩ = some (.slice at4 S.tkn.length ct4) ∧ W6.cell? ⟨B, 0, none⟩ = some (.string (ba X.1)))) ⟨(hown3.alloc _), (heap_alloc_new w3 _), (hb3.alloc hb3.size (.cells #[.string (ba X.1)] 9)), ⟨(((hb3.alloc hb3.size (.cells #[.string (ba X.1)] 9))).cell (p := ⟨w.heap.size, 4, none⟩) hlt).trans c4, (((hb3.alloc hb3.size (.cells #[.string (ba X.1)] 9))).cell (p := ⟨B, 0, none⟩) xlt).trans x0⟩⟩ ?_
            clear hHeld
            rintro w6 ⟨q1, q2, q3, hHeld⟩
            generalize w3.heap.size = c at *
            refine wpAnyT_one (i := 7) (o := { dst := some 26, op := Go.Op.call { callee := Go.Callee.builtin Go.Builtin.append, args := #[Go.Operand.tmp 22, Go.Operand.tmp 25], argTypes := #[42, 42] }, type := 42, pos := "ref.go:125", after := #[{ on := 3, ground := Go.Ground.data }, { on := 6, ground := Go.Ground.data }, { on := 3, ground := Go.Ground.chain }], guard := none }) (by kernel_rfl) rfl (fun K hK => ?_)
            refine step_append_lies _ (by rfl) _ _ _ (by rfl) W.heap.size 9 i0 _ 1 16 Tryd.underlying42 hi iz0 iz1 iz2 rfl (by omega) (.slice a3 S.tkn.length e3) S.tkn.length (wcells S.tkn) (by rfl) q1 ⟨c, 0, none⟩ 1 1 [.string (ba X.1)] (by rfl) (by rfl) (World.news_of_block (cs := #[.string (ba X.1)]) (t := 9) (fr := (0, 0)) q2) (by simp [Value.oneCell']) (by omega) (by unfold maxLen; omega) (by omega) q3.size w6.heap.size rfl ?_
            intro gg cap w7 hown7 hgrow7 hat7 hlt7
            have hb7 := app_step q1 q3 q3.size hgrow7
            have cN := newest_any w7 (some ⟨gg, 0, none⟩) cap (S.tkn ++ [X.1]) (by rw [HL1.out]; exact RowR.of_own (by simpa [wcells, strV_ba] using hown7)) (by rw [HL1.out]; omega)
            rw [HL1.out] at cN
            refine hK.out _ _ ⟨((hb7).cell (p := ⟨w.heap.size, 4, none⟩) hlt).trans c4, ((hb7).cell (p := ⟨B, 0, none⟩) xlt).trans x0⟩ (fun hHeld => ?_)
            clear hK K
            try simp only [Act.put, List.setIfInBounds_toArray, List.set_cons_zero, List.set_cons_succ]
            refine wpAnyT_one (i := 8) (o := { dst := some 27, op := Go.Op.call { callee := Go.Callee.value (Go.Operand.func 84), args := #[Go.Operand.tmp 26], argTypes := #[42] }, type := 42, pos := "ref.go:125", after := #[{ on := 7, ground := Go.Ground.data }, { on := 7, ground := Go.Ground.chain }], guard := none }) (by kernel_rfl) rfl (fun K hK => ?_)
            go_simp
            go_at_call 84
            refine cN.mono ?_
            rintro e w8 ⟨v8, rfl, ho8, hb8⟩
            obtain ⟨a8, e8, rfl⟩ := own_len ho8
            have hb8' := hb7.trans (hb8.mono hb7.size)
            have y1 := (hb8'.cell (p := ⟨w.heap.size, 4, none⟩) hlt).trans c4
            have y2 := (hb8'.frozen (p := ⟨w.heap.size, 4, none⟩) hlt).trans (hf 4)
            go_wp2_with fail
            refine hK.out _ _ ⟨((hb8').cell (p := ⟨w.heap.size, 4, none⟩) hlt).trans c4, ((hb8').cell (p := ⟨B, 0, none⟩) xlt).trans x0⟩ (fun hHeld => ?_)
            clear hK K
            try simp only [Act.put, List.setIfInBounds_toArray, List.set_cons_zero, List.set_cons_succ]
            refine wpAnyT_last (i := 9) (o := { dst := some 28, op := Go.Op.fieldAddr 67 (Go.Operand.tmp 1) 4, type := 0, pos := "ref.go:125", after := #[{ on := 0, ground := Go.Ground.phase }, { on := 1, ground := Go.Ground.phase }, { on := 2, ground := Go.Ground.phase }, { on := 3, ground := Go.Ground.phase }, { on := 4, ground := Go.Ground.phase }, { on := 5, ground := Go.Ground.phase }, { on := 6, ground := Go.Ground.phase }, { on := 7, ground := Go.Ground.phase }, { on := 8, ground := Go.Ground.phase }], guard := none }) (by kernel_rfl) rfl (by decide) (fun K hK => ?_)
            go_simp
            refine hK.out _ _ ?_
            clear hK K
            try simp only [Act.put, List.setIfInBounds_toArray, List.set_cons_zero, List.set_cons_succ]
            refine wpAnyT_last (i := 10) (o := { dst := none, op := Go.Op.store 42 (Go.Operand.tmp 28) (Go.Operand.tmp 27), type := 0, pos := "ref.go:125", after := #[{ on := 9, ground := Go.Ground.data }, { on := 8, ground := Go.Ground.data }, { on := 8, ground := Go.Ground.chain }, { on := 0, ground := Go.Ground.phase }, { on := 1, ground := Go.Ground.phase }, { on := 2, ground := Go.Ground.phase }, { on := 3, ground := Go.Ground.phase }, { on := 4, ground := Go.Ground.phase }, { on := 5, ground := Go.Ground.phase }, { on := 6, ground := Go.Ground.phase }, { on := 7, ground := Go.Ground.phase }, { on := 8, ground := Go.Ground.phase }], guard := none }) (by kernel_rfl) rfl (by decide) (fun K hK => ?_)
            go_simp
            refine hK.out _ _ ?_
            clear hK K
            try simp only [Act.put, List.setIfInBounds_toArray, List.set_cons_zero, List.set_cons_succ]
            refine wpAnyT_done (by kernel_rfl) ?_ _
            go_wp2_with fail
            go_meet
            have q := (HT.out.step hb8').tkn (l := last8 (S.tkn ++ [X.1])) (own_low ho8 (by have := hb7.size; omega))
            rw [HG.out]
            exact q
          · go_simp
            refine hK.out _ _ ⟨((((below1 (B := W.heap.size) (w := W) (.cells #[] 9) (Nat.le_refl _)).alloc (by simp) (.cells #[.string (ba X.1)] 9)).drew).cell (p := ⟨w.heap.size, 4, none⟩) hlt).trans c4, ((((below1 (B := W.heap.size) (w := W) (.cells #[] 9) (Nat.le_refl _)).alloc (by simp) (.cells #[.string (ba X.1)] 9)).drew).cell (p := ⟨B, 0, none⟩) xlt).trans x0⟩ (fun hHeld => ?_)
            clear hK K
            try simp only [Act.put, List.setIfInBounds_toArray, List.set_cons_zero, List.set_cons_succ]
            refine wpAnyT_one (i := 3) (o := { dst := some 22, op := Go.Op.call { callee := Go.Callee.builtin Go.Builtin.append, args := #[Go.Operand.tmp 19, Go.Operand.tmp 21], argTypes := #[42, 42] }, type := 42, pos := "ref.go:125", after := #[{ on := 0, ground := Go.Ground.data }, { on := 2, ground := Go.Ground.data }], guard := none }) (by kernel_rfl) rfl (fun K hK => ?_)
            refine step_append_row (by rfl) _ _ _ (by rfl) W.heap.size 9 i0 _ 1 16 Tryd.underlying42 hi iz0 iz1 iz2 rfl (by omega) _ 0 [] (by rfl) (((World.ownsRow_lit (base := W.heap.size) (e := 9) (size := 1) W #[] 0 (Nat.le_refl _) (by unfold maxLen; omega) rfl).alloc _).drew) _ S.tkn.length (wcells S.tkn) (by rfl) (h3.below (((below1 (B := W.heap.size) (w := W) (.cells #[] 9) (Nat.le_refl _)).alloc (by simp) (.cells #[.string (ba X.1)] 9)).drew)) (one_wcells _) (by unfold maxLen; omega) (by omega) ((((below1 (B := W.heap.size) (w := W) (.cells #[] 9) (Nat.le_refl _)).alloc (by simp) (.cells #[.string (ba X.1)] 9)).drew)).size ?_
            intro v3 w3 hown3 hgrow3 _
            rw [Nat.zero_add, List.nil_append] at hown3
            obtain ⟨a3, e3, rfl⟩ := own_len hown3
            have hb3 := app_step (((World.ownsRow_lit (base := W.heap.size) (e := 9) (size := 1) W #[] 0 (Nat.le_refl _) (by unfold maxLen; omega) rfl).alloc _).drew) (((below1 (B := W.heap.size) (w := W) (.cells #[] 9) (Nat.le_refl _)).alloc (by simp) (.cells #[.string (ba X.1)] 9)).drew) ((((below1 (B := W.heap.size) (w := W) (.cells #[] 9) (Nat.le_refl _)).alloc (by simp) (.cells #[.string (ba X.1)] 9)).drew)).size hgrow3
            refine hK.out _ _ ⟨((hb3).cell (p := ⟨w.heap.size, 4, none⟩) hlt).trans c4, ((hb3).cell (p := ⟨B, 0, none⟩) xlt).trans x0⟩ (fun hHeld => ?_)
            clear hK K
            try simp only [Act.put, List.setIfInBounds_toArray, List.set_cons_zero, List.set_cons_succ]
            refine anyT_as (fun W6 => W6.ownsRow W.heap.size 9 1 (.slice a3 S.tkn.length e3) S.tkn.length (wcells S.tkn) ∧ W6.heap[W.heap.size + 1]? = some (.cells #[.string (ba X.1)] 9 (0, 0)) ∧ Below W.heap.size W W6 ∧ (W6.cell? ⟨w.heap.size, 4, none⟩ = some (.slice at4 S.tkn.length ct4) ∧ W6.cell? ⟨B, 0, none⟩ = some (.string (ba X.1)))) ⟨hown3, (by rw [hgrow3.block _ (by simp) (by simp [Value.ownBlock])]; exact heap_new2 W _ _), hb3, ⟨((hb3).cell (p := ⟨w.heap.size, 4, none⟩) hlt).trans c4, ((hb3).cell (p := ⟨B, 0, none⟩) xlt).trans x0⟩⟩ ?_
            clear hHeld
            rintro w6 ⟨q1, q2, q3, hHeld⟩
            generalize W.heap.size + 1 = c at *
            refine wpAnyT_one (i := 7) (o := { dst := some 26, op := Go.Op.call { callee := Go.Callee.builtin Go.Builtin.append, args := #[Go.Operand.tmp 22, Go.Operand.tmp 25], argTypes := #[42, 42] }, type := 42, pos := "ref.go:125", after := #[{ on := 3, ground := Go.Ground.data }, { on := 6, ground := Go.Ground.data }, { on := 3, ground := Go.Ground.chain }], guard := none }) (by kernel_rfl) rfl (fun K hK => ?_)
            refine step_append_lies _ (by rfl) _ _ _ (by rfl) W.heap.size 9 i0 _ 1 16 Tryd.underlying42 hi iz0 iz1 iz2 rfl (by omega) (.slice a3 S.tkn.length e3) S.tkn.length (wcells S.tkn) (by rfl) q1 ⟨c, 0, none⟩ 1 1 [.string (ba X.1)] (by rfl) (by rfl) (World.news_of_block (cs := #[.string (ba X.1)]) (t := 9) (fr := (0, 0)) q2) (by simp [Value.oneCell']) (by omega) (by unfold maxLen; omega) (by omega) q3.size w6.heap.size rfl ?_
            intro gg cap w7 hown7 hgrow7 hat7 hlt7
            have hb7 := app_step q1 q3 q3.size hgrow7
            have cN := newest_any w7 (some ⟨gg, 0, none⟩) cap (S.tkn ++ [X.1]) (by rw [HL1.out]; exact RowR.of_own (by simpa [wcells, strV_ba] using hown7)) (by rw [HL1.out]; omega)
            rw [HL1.out] at cN
            refine hK.out _ _ ⟨((hb7).cell (p := ⟨w.heap.size, 4, none⟩) hlt).trans c4, ((hb7).cell (p := ⟨B, 0, none⟩) xlt).trans x0⟩ (fun hHeld => ?_)
            clear hK K
            try simp only [Act.put, List.setIfInBounds_toArray, List.set_cons_zero, List.set_cons_succ]
            refine wpAnyT_one (i := 8) (o := { dst := some 27, op := Go.Op.call { callee := Go.Callee.value (Go.Operand.func 84), args := #[Go.Operand.tmp 26], argTypes := #[42] }, type := 42, pos := "ref.go:125", after := #[{ on := 7, ground := Go.Ground.data }, { on := 7, ground := Go.Ground.chain }], guard := none }) (by kernel_rfl) rfl (fun K hK => ?_)
            go_simp
            go_at_call 84
            refine cN.mono ?_
            rintro e w8 ⟨v8, rfl, ho8, hb8⟩
            obtain ⟨a8, e8, rfl⟩ := own_len ho8
            have hb8' := hb7.trans (hb8.mono hb7.size)
            have y1 := (hb8'.cell (p := ⟨w.heap.size, 4, none⟩) hlt).trans c4
            have y2 := (hb8'.frozen (p := ⟨w.heap.size, 4, none⟩) hlt).trans (hf 4)
            go_wp2_with fail
            refine hK.out _ _ ⟨((hb8').cell (p := ⟨w.heap.size, 4, none⟩) hlt).trans c4, ((hb8').cell (p := ⟨B, 0, none⟩) xlt).trans x0⟩ (fun hHeld => ?_)
            clear hK K
            try simp only [Act.put, List.setIfInBounds_toArray, List.set_cons_zero, List.set_cons_succ]
            refine wpAnyT_last (i := 9) (o := { dst := some 28, op := Go.Op.fieldAddr 67 (Go.Operand.tmp 1) 4, type := 0, pos := "ref.go:125", after := #[{ on := 0, ground := Go.Ground.phase }, { on := 1, ground := Go.Ground.phase }, { on := 2, ground := Go.Ground.phase }, { on := 3, ground := Go.Ground.phase }, { on := 4, ground := Go.Ground.phase }, { on := 5, ground := Go.Ground.phase }, { on := 6, ground := Go.Ground.phase }, { on := 7, ground := Go.Ground.phase }, { on := 8, ground := Go.Ground.phase }], guard := none }) (by kernel_rfl) rfl (by decide) (fun K hK => ?_)
            go_simp
            refine hK.out _ _ ?_
            clear hK K
            try simp only [Act.put, List.setIfInBounds_toArray, List.set_cons_zero, List.set_cons_succ]
            refine wpAnyT_last (i := 10) (o := { dst := none, op := Go.Op.store 42 (Go.Operand.tmp 28) (Go.Operand.tmp 27), type := 0, pos := "ref.go:125", after := #[{ on := 9, ground := Go.Ground.data }, { on := 8, ground := Go.Ground.data }, { on := 8, ground := Go.Ground.chain }, { on := 0, ground := Go.Ground.phase }, { on := 1, ground := Go.Ground.phase }, { on := 2, ground := Go.Ground.phase }, { on := 3, ground := Go.Ground.phase }, { on := 4, ground := Go.Ground.phase }, { on := 5, ground := Go.Ground.phase }, { on := 6, ground := Go.Ground.phase }, { on := 7, ground := Go.Ground.phase }, { on := 8, ground := Go.Ground.phase }], guard := none }) (by kernel_rfl) rfl (by decide) (fun K hK => ?_)
            go_simp
            refine hK.out _ _ ?_
            clear hK K
            try simp only [Act.put, List.setIfInBounds_toArray, List.set_cons_zero, List.set_cons_succ]
            refine wpAnyT_done (by kernel_rfl) ?_ _
            go_wp2_with fail
            go_meet
            have q := (HT.out.step hb8').tkn (l := last8 (S.tkn ++ [X.1])) (own_low ho8 (by have := hb7.size; omega))
            rw [HG.out]
            exact q
        · go_simp
          refine hK.out _ _ ⟨(((below1 (B := W.heap.size) (w := W) (.cells #[.string (ba X.1)] 9) (Nat.le_refl _)).drew).cell (p := ⟨w.heap.size, 4, none⟩) hlt).trans c4, (((below1 (B := W.heap.size) (w := W) (.cells #[.string (ba X.1)] 9) (Nat.le_refl _)).drew).cell (p := ⟨B, 0, none⟩) xlt).trans x0⟩ (fun hHeld => ?_)
          clear hK K
          try simp only [Act.put, List.setIfInBounds_toArray, List.set_cons_zero, List.set_cons_succ]
          refine wpAnyT_one (i := 0) (o := { dst := some 19, op := Go.Op.buildSlice 42 0 #[], type := 42, pos := "ref.go:125", after := #[], guard := none }) (by kernel_rfl) rfl (fun K hK => ?_)
          go_simp
          refine hK.out _ _ ⟨((((below1 (B := W.heap.size) (w := W) (.cells #[.string (ba X.1)] 9) (Nat.le_refl _)).alloc (by simp) (.cells #[] 9)).drew).cell (p := ⟨w.heap.size, 4, none⟩) hlt).trans c4, ((((below1 (B := W.heap.size) (w := W) (.cells #[.string (ba X.1)] 9) (Nat.le_refl _)).alloc (by simp) (.cells #[] 9)).drew).cell (p := ⟨B, 0, none⟩) xlt).trans x0⟩ (fun hHeld => ?_)
          clear hK K
          try simp only [Act.put, List.setIfInBounds_toArray, List.set_cons_zero, List.set_cons_succ]
          refine wpAnyT_one (i := 3) (o := { dst := some 22, op := Go.Op.call { callee := Go.Callee.builtin Go.Builtin.append, args := #[Go.Operand.tmp 19, Go.Operand.tmp 21], argTypes := #[42, 42] }, type := 42, pos := "ref.go:125", after := #[{ on := 0, ground := Go.Ground.data }, { on := 2, ground := Go.Ground.data }], guard := none }) (by kernel_rfl) rfl (fun K hK => ?_)
          refine step_append_row (by rfl) _ _ _ (by rfl) W.heap.size 9 i0 _ 1 16 Tryd.underlying42 hi iz0 iz1 iz2 rfl (by omega) _ 0 [] (by rfl) ((lit_at (W.alloc (.cells #[.string (ba X.1)] 9)) (W.heap.size + 1) W.heap.size (by simp) (by omega)).drew) _ S.tkn.length (wcells S.tkn) (by rfl) (h3.below (((below1 (B := W.heap.size) (w := W) (.cells #[.string (ba X.1)] 9) (Nat.le_refl _)).alloc (by simp) (.cells #[] 9)).drew)) (one_wcells _) (by unfold maxLen; omega) (by omega) ((((below1 (B := W.heap.size) (w := W) (.cells #[.string (ba X.1)] 9) (Nat.le_refl _)).alloc (by simp) (.cells #[] 9)).drew)).size ?_
          intro v3 w3 hown3 hgrow3 _
          rw [Nat.zero_add, List.nil_append] at hown3
          obtain ⟨a3, e3, rfl⟩ := own_len hown3
          have hb3 := app_step ((lit_at (W.alloc (.cells #[.string (ba X.1)] 9)) (W.heap.size + 1) W.heap.size (by simp) (by omega)).drew) (((below1 (B := W.heap.size) (w := W) (.cells #[.string (ba X.1)] 9) (Nat.le_refl _)).alloc (by simp) (.cells #[] 9)).drew) ((((below1 (B := W.heap.size) (w := W) (.cells #[.string (ba X.1)] 9) (Nat.le_refl _)).alloc (by simp) (.cells #[] 9)).drew)).size hgrow3
          refine hK.out _ _ ⟨((hb3).cell (p := ⟨w.heap.size, 4, none⟩) hlt).trans c4, ((hb3).cell (p := ⟨B, 0, none⟩) xlt).trans x0⟩ (fun hHeld => ?_)
          clear hK K
          try simp only [Act.put, List.setIfInBounds_toArray, List.set_cons_zero, List.set_cons_succ]
          refine anyT_as (fun W6 => W6.ownsRow W.heap.size 9 1 (.slice a3 S.tkn.length e3) S.tkn.length (wcells S.tkn) ∧ W6.heap[W.heap.size]? = some (.cells #[.string (ba X.1)] 9 (0, 0)) ∧ Below W.heap.size W W6 ∧ (W6.cell? ⟨w.heap.size, 4, none⟩ = some (.slice at4 S.tkn.length ct4) ∧ W6.cell? ⟨B, 0, none⟩ = some (.string (ba X.1)))) ⟨hown3, (by rw [hgrow3.block _ (by simp; omega) (by simp [Value.ownBlock])]; exact heap_old2 W _ _), hb3, ⟨((hb3).cell (p := ⟨w.heap.size, 4, none⟩) hlt).trans c4, ((hb3).cell (p := ⟨B, 0, none⟩) xlt).trans x0⟩⟩ ?_
          clear hHeld
          rintro w6 ⟨q1, q2, q3, hHeld⟩
          refine wpAnyT_one (i := 7) (o := { dst := some 26, op := Go.Op.call { callee := Go.Callee.builtin Go.Builtin.append, args := #[Go.Operand.tmp 22, Go.Operand.tmp 25], argTypes := #[42, 42] }, type := 42, pos := "ref.go:125", after := #[{ on := 3, ground := Go.Ground.data }, { on := 6, ground := Go.Ground.data }, { on := 3, ground := Go.Ground.chain }], guard := none }) (by kernel_rfl) rfl (fun K hK => ?_)
          refine step_append_lies _ (by rfl) _ _ _ (by rfl) W.heap.size 9 i0 _ 1 16 Tryd.underlying42 hi iz0 iz1 iz2 rfl (by omega) (.slice a3 S.tkn.length e3) S.tkn.length (wcells S.tkn) (by rfl) q1 ⟨W.heap.size, 0, none⟩ 1 1 [.string (ba X.1)] (by rfl) (by rfl) (World.news_of_block (cs := #[.string (ba X.1)]) (t := 9) (fr := (0, 0)) q2) (by simp [Value.oneCell']) (by omega) (by unfold maxLen; omega) (by omega) q3.size w6.heap.size rfl ?_
          intro gg cap w7 hown7 hgrow7 hat7 hlt7
          have hb7 := app_step q1 q3 q3.size hgrow7
          have cN := newest_any w7 (some ⟨gg, 0, none⟩) cap (S.tkn ++ [X.1]) (by rw [HL1.out]; exact RowR.of_own (by simpa [wcells, strV_ba] using hown7)) (by rw [HL1.out]; omega)
          rw [HL1.out] at cN
          refine hK.out _ _ ⟨((hb7).cell (p := ⟨w.heap.size, 4, none⟩) hlt).trans c4, ((hb7).cell (p := ⟨B, 0, none⟩) xlt).trans x0⟩ (fun hHeld => ?_)
          clear hK K
          try simp only [Act.put, List.setIfInBounds_toArray, List.set_cons_zero, List.set_cons_succ]
          refine wpAnyT_one (i := 8) (o := { dst := some 27, op := Go.Op.call { callee := Go.Callee.value (Go.Operand.func 84), args := #[Go.Operand.tmp 26], argTypes := #[42] }, type := 42, pos := "ref.go:125", after := #[{ on := 7, ground := Go.Ground.data }, { on := 7, ground := Go.Ground.chain }], guard := none }) (by kernel_rfl) rfl (fun K hK => ?_)
          go_simp
          go_at_call 84
          refine cN.mono ?_
          rintro e w8 ⟨v8, rfl, ho8, hb8⟩
          obtain ⟨a8, e8, rfl⟩ := own_len ho8
          have hb8' := hb7.trans (hb8.mono hb7.size)
          have y1 := (hb8'.cell (p := ⟨w.heap.size, 4, none⟩) hlt).trans c4
          have y2 := (hb8'.frozen (p := ⟨w.heap.size, 4, none⟩) hlt).trans (hf 4)
          go_wp2_with fail
          refine hK.out _ _ ⟨((hb8').cell (p := ⟨w.heap.size, 4, none⟩) hlt).trans c4, ((hb8').cell (p := ⟨B, 0, none⟩) xlt).trans x0⟩ (fun hHeld => ?_)
          clear hK K
          try simp only [Act.put, List.setIfInBounds_toArray, List.set_cons_zero, List.set_cons_succ]
          refine wpAnyT_last (i := 9) (o := { dst := some 28, op := Go.Op.fieldAddr 67 (Go.Operand.tmp 1) 4, type := 0, pos := "ref.go:125", after := #[{ on := 0, ground := Go.Ground.phase }, { on := 1, ground := Go.Ground.phase }, { on := 2, ground := Go.Ground.phase }, { on := 3, ground := Go.Ground.phase }, { on := 4, ground := Go.Ground.phase }, { on := 5, ground := Go.Ground.phase }, { on := 6, ground := Go.Ground.phase }, { on := 7, ground := Go.Ground.phase }, { on := 8, ground := Go.Ground.phase }], guard := none }) (by kernel_rfl) rfl (by decide) (fun K hK => ?_)
          go_simp
          refine hK.out _ _ ?_
          clear hK K
          try simp only [Act.put, List.setIfInBounds_toArray, List.set_cons_zero, List.set_cons_succ]
          refine wpAnyT_last (i := 10) (o := { dst := none, op := Go.Op.store 42 (Go.Operand.tmp 28) (Go.Operand.tmp 27), type := 0, pos := "ref.go:125", after := #[{ on := 9, ground := Go.Ground.data }, { on := 8, ground := Go.Ground.data }, { on := 8, ground := Go.Ground.chain }, { on := 0, ground := Go.Ground.phase }, { on := 1, ground := Go.Ground.phase }, { on := 2, ground := Go.Ground.phase }, { on := 3, ground := Go.Ground.phase }, { on := 4, ground := Go.Ground.phase }, { on := 5, ground := Go.Ground.phase }, { on := 6, ground := Go.Ground.phase }, { on := 7, ground := Go.Ground.phase }, { on := 8, ground := Go.Ground.phase }], guard := none }) (by kernel_rfl) rfl (by decide) (fun K hK => ?_)
          go_simp
          refine hK.out _ _ ?_
          clear hK K
          try simp only [Act.put, List.setIfInBounds_toArray, List.set_cons_zero, List.set_cons_succ]
          refine wpAnyT_done (by kernel_rfl) ?_ _
          go_wp2_with fail
          go_meet
          have q := (HT.out.step hb8').tkn (l := last8 (S.tkn ++ [X.1])) (own_low ho8 (by have := hb7.size; omega))
          rw [HG.out]
          exact q
      · have HG : Hid (RTk w K B X W { S with tkn := if true = true then S.tkn else last8 (S.tkn ++ [X.1]) }) := Lib.hid (by rw [if_pos rfl]; exact HT.out)
        clear h1 h2 h3 h4 h5 h6 h7 h7' h8 h10
        go_wp2_with fail
        go_meet
        exact HG.out
    case rest =>
      clear h1 h2 h3 h4 h5 h6 h7 h7' h8 h10 HT c0 c1 c2 c3 c4 c5 hf hlt r0 r1 r2 r3 r4 r5 rf rlt z0 z1 z2 zf zlt x0 x1 x2 xf xlt
      have HT := Lib.hid hcut
      obtain ⟨vo, vt, h1, _⟩ := hcut
      obtain ⟨c0, c1, c2, c3, c4, c5, hf, hlt⟩ := blk_facts h1
      clear h1 c0 c1 c3 c4 c5
      go_upto_region 7 with fail
      refine world_as (fun W => RTk w K B X W _) (HT.out.mark (m := false)) ?_
      clear HT c2 hf hlt
      intro W2 hT
      have HT := Lib.hid hT
      obtain ⟨vo, vt, h1, h2, _, _, _, _, _, _, _, h10⟩ := hT
      dsimp only at h1 h2
      obtain ⟨c0, c1, c2, c3, c4, c5, hf, hlt⟩ := blk_facts h1
      clear h1 c0 c2 c3 c4 c5
      go_cut [] (fun wx => RTk w K B X wx { S with opn := D, mark := false, tkn := if M = true then S.tkn else last8 (S.tkn ++ [X.1]) })
      case first =>
        obtain ⟨i0, hi, iz0, iz1, iz2⟩ := info_parts info59
        rcases h2.2 with ⟨_, e⟩ | ⟨g, off, co2, rfl, hg, hcap, _⟩
        · omega
        have hdl : D.length = S.opn.length - 1 := by rw [HDD.out]; exact List.length_drop ..
        have HDL := Lib.hid hdl
        have hBW : B < W2.heap.size := by have := heap_lt HT.out.choose_spec.choose_spec.2.2.2.2.2.2.2.1; omega
        have HO : Hid (W2.heap.size = W2.heap.size → (W2.alloc (.cells #[] 59)).ownsRow (B + 1) 59 3 (.slice (some ⟨W2.heap.size, 0, none⟩) 0 0) 0 []) := Lib.hid (fun _ => World.ownsRow_lit (base := B + 1) (e := 59) (size := 3) W2 #[] 0 (by omega) (by unfold maxLen; omega) rfl)
        have HEnd : Hid (∀ v' w2, w2.ownsRow (B + 1) 59 3 v' (S.opn.length - 1) (scells D) → (W2.alloc (.cells #[] 59)).grownBy w2 (.some W2.heap.size) → RTk w K B X (w2.setCell ⟨w.heap.size, 1, none⟩ v') { S with opn := D, mark := false, tkn := if M = true then S.tkn else last8 (S.tkn ++ [X.1]) }) :=
          Lib.hid (fun v' w2 ho hg => by
            have hbb : Below W2.heap.size W2 w2 := app_step (World.ownsRow_lit (base := W2.heap.size) (e := 59) (size := 3) W2 #[] 0 (Nat.le_refl _) (by unfold maxLen; omega) rfl) (below1 _ (Nat.le_refl _)) (by simp) hg
            have q := (HT.out.step hbb).opn (l := D) (by rw [HDL.out]; exact ho)
            exact q)
        have hbz : B + 1 ≤ (W2.alloc (.cells #[] 59)).heap.size := by simp; omega
        clear hdl
        generalize S.opn.length = N at *
        have hNz : (1 : Int) ≤ (N : Int) := by omega
        by_cases h1c : co2 = 1
        case' pos =>
          have hn1 : N = 1 := by omega
          have hr := RowR.gone3 h2 hn1
          rw [← HDD.out] at hr
          subst hn1 h1c
          have HR := Lib.hid (RowR.alloc hr (.cells #[] 59))
          clear h2 hr hl hcap
          go_wp2_with (at_builtin; go_loud (refine wpList_append_row rfl _ _ 51 rfl (B + 1) 59 i0 _ 3 24 Tryd.underlying51 hi iz0 iz1 iz2 rfl (by decide) _ _ _ rfl (HO.out rfl) _ 0 (scells D) rfl HR.out (one_scells _) (by unfold maxLen; omega) (by omega) hbz ?_))
        case' neg =>
          have hr := RowR.tail3 h2 hl
          rw [← HDD.out] at hr
          have HR := Lib.hid (RowR.alloc hr (.cells #[] 59))
          clear h2 hr hl
          go_wp2_with (at_builtin; refine wpList_append_row rfl _ _ 51 rfl (B + 1) 59 i0 _ 3 24 Tryd.underlying51 hi iz0 iz1 iz2 rfl (by decide) _ _ _ rfl (HO.out rfl) _ (N - 1) (scells D) rfl HR.out (one_scells _) (by unfold maxLen; omega) (by omega) hbz ?_)
        all_goals
          intro v' w2 hown hgrow _
          obtain ⟨a7, c7, rfl⟩ := own_len hown
          have Q := Lib.hid (HEnd.out _ _ (by simpa using hown) hgrow)
          have hbb := app_step (World.ownsRow_lit (base := W2.heap.size) (e := 59) (size := 3) W2 #[] 0 (Nat.le_refl _) (by unfold maxLen; omega) rfl) (below1 (B := W2.heap.size) (w := W2) (.cells #[] 59) (Nat.le_refl _)) (by simp) hgrow
          have y1 := (hbb.cell (p := ⟨w.heap.size, 1, none⟩) hlt).trans c1
          have y2 := (hbb.frozen (p := ⟨w.heap.size, 1, none⟩) hlt).trans (hf 1)
          clear hown hgrow hbb c1 hf hlt
          go_wp2_with fail
          go_meet
          exact Q.out
      case rest =>
        clear c1 hf hlt h2 h10 HT
        have HT := Lib.hid hcut
        obtain ⟨vo, vt, h1, _⟩ := hcut
        dsimp only at h1
        obtain ⟨c0, c1, c2, c3, c4, c5, hf, hlt⟩ := blk_facts h1
        have hfz : S.free ≤ 400 := by omega
        have HFr : Hid (max ((S.free : Int) - 1) 0 = ((S.free - 1 : Nat) : Int)) := Lib.hid (by omega)
        clear h1 c0 c1 c2 c4 c5
        go_upto_region 9 with fail
        refine world_as (fun W => RTk w K B X W { S with opn := D, mark := false, tkn := if M = true then S.tkn else last8 (S.tkn ++ [X.1]), free := S.free - 1 }) (by have h := HT.out.free (f := S.free - 1); rw [← HFr.out] at h; exact h) ?_
        clear HT c3 hf hlt HFr
        intro W3 hT
        obtain ⟨vo, vt, h1, h2, h3, h4, h5, h6, h7, h8, _, h10⟩ := hT
        dsimp only at h1 h2 h3
        generalize hTK : (if M = true then S.tkn else last8 (S.tkn ++ [X.1])) = TK at *
        clear hTK
        obtain ⟨ao5, co5, rfl⟩ := h2.len
        obtain ⟨at5, ct5, rfl⟩ := h3.len
        obtain ⟨c0, c1, c2, c3, c4, c5, hf, hlt⟩ := blk_facts h1
        obtain ⟨r0, r1, r2, r3, r4, r5, rf, rlt⟩ := blk_facts h6
        have h7' : W3.heap[w.heap.size + 1 + 1]? = some (.cells z3 59 (0, 0)) := h7
        obtain ⟨z0, z1, z2, zf, zlt⟩ := blk3 h7'
        obtain ⟨x0, x1, x2, xf, xlt⟩ := blk3 h8
        have Q := Lib.hid (And.intro h2 (And.intro h3 (And.intro h4 (And.intro h5 (And.intro h6 (And.intro h7 h10))))))
        clear h1 h2 h3 h4 h5 h6 h7 h7' h8 h10
        have m1 : w.heap.size + 1 ≠ w.heap.size := by omega
        have m2 : w.heap.size + 1 + 1 ≠ w.heap.size := by omega
        have HB9 := Lib.hid (And.intro c0 (And.intro c1 (And.intro c2 (And.intro c3 (And.intro c4 (And.intro c5 (And.intro x0 (And.intro x1 x2))))))))
        refine wp_region_tail 5 (S := (fun w' => w'.cell? ⟨w.heap.size, 0, none⟩ = some (.int .i64 S.hold) ∧ w'.cell? ⟨w.heap.size, 1, none⟩ = some (.slice ao5 D.length co5) ∧ w'.cell? ⟨w.heap.size, 2, none⟩ = some (.bool false) ∧ w'.cell? ⟨w.heap.size, 3, none⟩ = some (.int .i64 ((S.free - 1 : Nat) : Int)) ∧ w'.cell? ⟨w.heap.size, 4, none⟩ = some (.slice at5 TK.length ct5) ∧ w'.cell? ⟨w.heap.size, 5, none⟩ = some (.bool S.brk) ∧ w'.cell? ⟨B, 0, none⟩ = some (.string (ba X.1)) ∧ w'.cell? ⟨B, 1, none⟩ = some (.bool X.2.1) ∧ w'.cell? ⟨B, 2, none⟩ = some (.bool X.2.2))) (by kernel_rfl) ⟨c0, c1, c2, c3, c4, c5, x0, x1, x2⟩ (fun hHeld => ?_)
        simp only [List.size_toArray, List.length_cons, List.length_nil, Nat.zero_add, Nat.reduceAdd]
        refine wpAnyT_take (i := 0) (oi := { dst := some 41, op := Go.Op.load 67 (Go.Operand.tmp 1), type := 67, pos := "ref.go:130", after := #[], guard := none }) (v := ?_) rfl (by kernel_rfl) (by kernel_rfl) (by kernel_rfl) (by kernel_rfl) (fun _ _ _ h => h) (Or.inl ⟨by rfl, ?_⟩) (by assumption) ?_
        rotate_left
        · intro w hSw
          (try dsimp only at hSw)
          go_simp
          all_goals (with_reducible rfl)
        try simp only [Act.put, List.setIfInBounds_toArray, List.set_cons_zero, List.set_cons_succ]
        refine wpAnyT_take (i := 1) (oi := { dst := some 42, op := Go.Op.load 59 (Go.Operand.tmp 5), type := 59, pos := "ref.go:130", after := #[{ on := 2, ground := Go.Ground.gcOnly Go.Departure.lateStores }], guard := none }) (v := ?_) rfl (by kernel_rfl) (by kernel_rfl) (by kernel_rfl) (by kernel_rfl) (fun _ _ _ h => h) (Or.inl ⟨by rfl, ?_⟩) (by assumption) ?_
        rotate_left
        · intro w hSw
          (try dsimp only at hSw)
          go_simp
          all_goals (with_reducible rfl)
        try simp only [Act.put, List.setIfInBounds_toArray, List.set_cons_zero, List.set_cons_succ]
        refine wpAnyT_one (i := 2) (o := { dst := none, op := Go.Op.store 67 (Go.Operand.tmp 2) (Go.Operand.tmp 41), type := 0, pos := "ref.go:130", after := #[{ on := 0, ground := Go.Ground.data }, { on := 0, ground := Go.Ground.phase }, { on := 1, ground := Go.Ground.textOnly Go.Departure.lateStores }], guard := none }) (by kernel_rfl) rfl (fun K hK => ?_)
        go_simp
        refine hK.out _ _ (s9_drew (s9_far (s9_far (s9_far (s9_far (s9_far (s9_far HB9.out m1 n3) m1 n3) m1 n3) m1 n3) m1 n3) m1 n3)) (fun hHeld => ?_)
        clear hK K
        try simp only [Act.put, List.setIfInBounds_toArray, List.set_cons_zero, List.set_cons_succ]
        refine wpAnyT_one (i := 3) (o := { dst := none, op := Go.Op.store 59 (Go.Operand.tmp 3) (Go.Operand.tmp 42), type := 0, pos := "ref.go:130", after := #[{ on := 1, ground := Go.Ground.data }, { on := 2, ground := Go.Ground.chain }, { on := 0, ground := Go.Ground.phase }, { on := 1, ground := Go.Ground.phase }, { on := 2, ground := Go.Ground.phase }], guard := none }) (by kernel_rfl) rfl (fun K hK => ?_)
        go_simp
        refine hK.out _ _ (s9_drew (s9_far (s9_far (s9_far (s9_far (s9_far (s9_far (s9_far (s9_far (s9_far HB9.out m1 n3) m1 n3) m1 n3) m1 n3) m1 n3) m1 n3) m2 n4) m2 n4) m2 n4)) (fun hHeld => ?_)
        clear hK K
        try simp only [Act.put, List.setIfInBounds_toArray, List.set_cons_zero, List.set_cons_succ]
        refine wpAnyT_take (i := 4) (oi := { dst := some 4, op := Go.Op.assign (Go.Operand.const (Go.Value.bool true)), type := 4, pos := "ref.go:130", after := #[{ on := 3, ground := Go.Ground.chain }, { on := 0, ground := Go.Ground.phase }, { on := 1, ground := Go.Ground.phase }, { on := 2, ground := Go.Ground.phase }, { on := 3, ground := Go.Ground.phase }], guard := none }) (v := ?_) rfl (by kernel_rfl) (by kernel_rfl) (by kernel_rfl) (by kernel_rfl) (fun _ _ _ h => h) (Or.inl ⟨by rfl, ?_⟩) (by assumption) ?_
        rotate_left
        · intro w hSw
          (try dsimp only at hSw)
          go_simp
          all_goals (with_reducible rfl)
        try simp only [Act.put, List.setIfInBounds_toArray, List.set_cons_zero, List.set_cons_succ]
        refine wpAnyT_done (by kernel_rfl) ?_ _
        go_wp2_with fail
        refine post_as (fun WW => RtEnd w K B X { S with opn := D, mark := false, tkn := TK, free := S.free - 1 } (.slice ao5 D.length co5) (.slice at5 TK.length ct5) WW) (RTk.ends Q.out.2.2.2.2.1 Q.out.2.2.2.2.2.1 Q.out.2.2.2.2.2.2 Q.out.1 Q.out.2.1 Q.out.2.2.1 Q.out.2.2.2.1 h9).drew (fun WW q => ?_)
        obtain ⟨s0, s1, s2, s3, s4, s5, _, _⟩ := blk_facts q.1
        obtain ⟨t0, t1, t2, _, _⟩ := blk3 q.2.1
        refine bodyPost_ret (v := .tuple #[rv S.hold (.slice ao5 D.length co5) false (S.free - 1) (.slice at5 TK.length ct5) S.brk, spkV X, .bool true]) (by simp [results, Tryd.results83, go_sem, s0, s1, s2, s3, s4, s5, t0, t1, t2]; rfl) rfl ?_
        rw [HTK.out, HC.out, hX.out]
        exact ⟨_, rfl, q.rf, q.2.2.1⟩
  · have E1 := Lib.hid (Hn.out hcan)
    have HC := Lib.hid hcan
    have Q := Lib.hid (And.intro h2 (And.intro h3 (And.intro h4 (And.intro h5 (And.intro h6 (And.intro h7 h10))))))
    rw [hcan]
    clear Hn Hm Hw Hl hcan h1 h2 h3 h4 h5 h6 h7 h7' h8 h10
    go_wp2_with fail
    have m1 : w.heap.size + 1 ≠ w.heap.size := by omega
    have m2 : w.heap.size + 1 + 1 ≠ w.heap.size := by omega
    have HB9 := Lib.hid (And.intro c0 (And.intro c1 (And.intro c2 (And.intro c3 (And.intro c4 (And.intro c5 (And.intro x0 (And.intro x1 x2))))))))
    refine wp_region_tail 5 (S := (fun w' => w'.cell? ⟨w.heap.size, 0, none⟩ = some (.int .i64 S.hold) ∧ w'.cell? ⟨w.heap.size, 1, none⟩ = some (.slice ao S.opn.length co) ∧ w'.cell? ⟨w.heap.size, 2, none⟩ = some (.bool S.mark) ∧ w'.cell? ⟨w.heap.size, 3, none⟩ = some (.int .i64 S.free) ∧ w'.cell? ⟨w.heap.size, 4, none⟩ = some (.slice at4 S.tkn.length ct4) ∧ w'.cell? ⟨w.heap.size, 5, none⟩ = some (.bool S.brk) ∧ w'.cell? ⟨B, 0, none⟩ = some (.string (ba X.1)) ∧ w'.cell? ⟨B, 1, none⟩ = some (.bool X.2.1) ∧ w'.cell? ⟨B, 2, none⟩ = some (.bool X.2.2))) (by kernel_rfl) ⟨c0, c1, c2, c3, c4, c5, x0, x1, x2⟩ (fun hHeld => ?_)
    simp only [List.size_toArray, List.length_cons, List.length_nil, Nat.zero_add, Nat.reduceAdd]
    refine wpAnyT_take (i := 0) (oi := { dst := some 14, op := Go.Op.load 67 (Go.Operand.tmp 1), type := 67, pos := "ref.go:122", after := #[], guard := none }) (v := ?_) rfl (by kernel_rfl) (by kernel_rfl) (by kernel_rfl) (by kernel_rfl) (fun _ _ _ h => h) (Or.inl ⟨by rfl, ?_⟩) (by assumption) ?_
    rotate_left
    · intro w hSw
      (try dsimp only at hSw)
      go_simp
      all_goals (with_reducible rfl)
    try simp only [Act.put, List.setIfInBounds_toArray, List.set_cons_zero, List.set_cons_succ]
    refine wpAnyT_take (i := 1) (oi := { dst := some 15, op := Go.Op.load 59 (Go.Operand.tmp 5), type := 59, pos := "ref.go:122", after := #[{ on := 2, ground := Go.Ground.gcOnly Go.Departure.lateStores }], guard := none }) (v := ?_) rfl (by kernel_rfl) (by kernel_rfl) (by kernel_rfl) (by kernel_rfl) (fun _ _ _ h => h) (Or.inl ⟨by rfl, ?_⟩) (by assumption) ?_
    rotate_left
    · intro w hSw
      (try dsimp only at hSw)
      go_simp
      all_goals (with_reducible rfl)
    try simp only [Act.put, List.setIfInBounds_toArray, List.set_cons_zero, List.set_cons_succ]
    refine wpAnyT_one (i := 2) (o := { dst := none, op := Go.Op.store 67 (Go.Operand.tmp 2) (Go.Operand.tmp 14), type := 0, pos := "ref.go:122", after := #[{ on := 0, ground := Go.Ground.data }, { on := 0, ground := Go.Ground.phase }, { on := 1, ground := Go.Ground.textOnly Go.Departure.lateStores }], guard := none }) (by kernel_rfl) rfl (fun K hK => ?_)
    go_simp
    refine hK.out _ _ (s9_drew (s9_far (s9_far (s9_far (s9_far (s9_far (s9_far HB9.out m1 n3) m1 n3) m1 n3) m1 n3) m1 n3) m1 n3)) (fun hHeld => ?_)
    clear hK K
    try simp only [Act.put, List.setIfInBounds_toArray, List.set_cons_zero, List.set_cons_succ]
    refine wpAnyT_one (i := 3) (o := { dst := none, op := Go.Op.store 59 (Go.Operand.tmp 3) (Go.Operand.tmp 15), type := 0, pos := "ref.go:122", after := #[{ on := 1, ground := Go.Ground.data }, { on := 2, ground := Go.Ground.chain }, { on := 0, ground := Go.Ground.phase }, { on := 1, ground := Go.Ground.phase }, { on := 2, ground := Go.Ground.phase }], guard := none }) (by kernel_rfl) rfl (fun K hK => ?_)
    go_simp
    refine hK.out _ _ (s9_drew (s9_far (s9_far (s9_far (s9_far (s9_far (s9_far (s9_far (s9_far (s9_far HB9.out m1 n3) m1 n3) m1 n3) m1 n3) m1 n3) m1 n3) m2 n4) m2 n4) m2 n4)) (fun hHeld => ?_)
    clear hK K
    try simp only [Act.put, List.setIfInBounds_toArray, List.set_cons_zero, List.set_cons_succ]
    refine wpAnyT_take (i := 4) (oi := { dst := some 4, op := Go.Op.assign (Go.Operand.const (Go.Value.bool false)), type := 4, pos := "ref.go:122", after := #[{ on := 3, ground := Go.Ground.chain }, { on := 0, ground := Go.Ground.phase }, { on := 1, ground := Go.Ground.phase }, { on := 2, ground := Go.Ground.phase }, { on := 3, ground := Go.Ground.phase }], guard := none }) (v := ?_) rfl (by kernel_rfl) (by kernel_rfl) (by kernel_rfl) (by kernel_rfl) (fun _ _ _ h => h) (Or.inl ⟨by rfl, ?_⟩) (by assumption) ?_
    rotate_left
    · intro w hSw
      (try dsimp only at hSw)
      go_simp
      all_goals (with_reducible rfl)
    try simp only [Act.put, List.setIfInBounds_toArray, List.set_cons_zero, List.set_cons_succ]
    refine wpAnyT_done (by kernel_rfl) ?_ _
    go_wp2_with fail
    refine post_as (fun WW => RtEnd w K B X S (.slice ao S.opn.length co) (.slice at4 S.tkn.length ct4) WW) (RTk.ends Q.out.2.2.2.2.1 Q.out.2.2.2.2.2.1 Q.out.2.2.2.2.2.2 Q.out.1 Q.out.2.1 Q.out.2.2.1 Q.out.2.2.2.1 h9).drew (fun WW q => ?_)
    obtain ⟨s0, s1, s2, s3, s4, s5, _, _⟩ := blk_facts q.1
    obtain ⟨t0, t1, t2, _, _⟩ := blk3 q.2.1
    refine bodyPost_ret (v := .tuple #[rv S.hold (.slice ao S.opn.length co) S.mark S.free (.slice at4 S.tkn.length ct4) S.brk, spkV X, .bool false]) (by simp [results, Tryd.results83, go_sem, s0, s1, s2, s3, s4, s5, t0, t1, t2]; rfl) rfl ?_
    rw [E1.out.1, HC.out, hX.out]
    exact ⟨_, rfl, q.rf, q.2.2.1⟩
end Go.Proofs.YtheemefggkcfbaaDoor
namespace Go.Proofs.YtheemefggkcfbaaDoor
open Go Go.Lib Go.RowKit Go.Shelf
/-! ### the reference's Said -/
set_option maxHeartbeats 8000000 in
set_option maxRecDepth 100000 in
theorem rsaid_any (w : World) (K : Nat → Prop) (v : Value) (S : Sp) (h : RfAt w K v S) (hS : S.ok) :
    Calls Tryd.prog 48 #[v] w fun e w' => ∃ v, e = .returned v ∧ RowR w' 1 v S.said.length (wcells S.said) ∧ Below w.heap.size w w' := by
  obtain ⟨i0, hi, iz0, iz1, iz2⟩ := info_parts info9
  obtain ⟨vo, vt, rfl, h1, h2, h3, h4⟩ := h
  obtain ⟨ao, co, rfl⟩ := h1.len
  obtain ⟨at4, ct4, rfl⟩ := h2.len
  have hlen := hS.len
  have htk := hS.tkn
  have hmk := Lib.hid hS.mark
  have Ht := Lib.hid (@from_take S)
  have Hs := Lib.hid (@from_skip S)
  have He := Lib.hid (@from_end S)
  have HS : Hid (S.said = last8 (S.tkn ++ S.from 0)) := Lib.hid rfl
  have HN : Hid (S.opn.length ≤ 400) := Lib.hid hlen
  have H1 := Lib.hid h1
  have H2 := Lib.hid h2
  have hb0 := below1 (B := w.heap.size) (w := w) (.cells (rc S.hold (.slice ao S.opn.length co) S.mark S.free (.slice at4 S.tkn.length ct4) S.brk) 67) (Nat.le_refl _)
  have hB0 := heap_alloc_new w (.cells (rc S.hold (.slice ao S.opn.length co) S.mark S.free (.slice at4 S.tkn.length ct4) S.brk) 67)
  have HB := Lib.hid (And.intro hb0 hB0)
  have hsz0 : (w.alloc (.cells (rc S.hold (.slice ao S.opn.length co) S.mark S.free (.slice at4 S.tkn.length ct4) S.brk) 67)).heap.size = w.heap.size + 1 := by simp
  have HL := Lib.hid (lit9 w (w.alloc (.cells (rc S.hold (.slice ao S.opn.length co) S.mark S.free (.slice at4 S.tkn.length ct4) S.brk) 67)) (w.heap.size + 1) hsz0 (by omega))
  clear h1 h2 h3 h4 hb0 hB0 hsz0
  go_enter Tryd.func48, Tryd.ntmps48
  go_wp2_with (at_builtin; refine wpList_append_row rfl _ _ 42 rfl w.heap.size 9 i0 _ 1 16 Tryd.underlying42 hi iz0 iz1 iz2 rfl (by decide) _ _ _ rfl HL.out _ S.tkn.length (wcells S.tkn) rfl ((H2.out.alloc _).alloc _) (one_wcells _) (by unfold maxLen; omega) (by omega) (by simp; omega) ?_)
  intro v' w1 hown hgrow _
  try rw [Nat.zero_add, List.nil_append] at hown
  have hb1 := app_step HL.out (HB.out.1.alloc (by simp) (.cells #[] 9)) (by simp; omega) hgrow
  have k1 : w1.heap[w.heap.size]? = some (.cells (rc S.hold (.slice ao S.opn.length co) S.mark S.free (.slice at4 S.tkn.length ct4) S.brk) 67 (0, 0)) := by
    rw [hgrow.block _ (by simp; omega) (by simp [Value.ownBlock])]
    exact blk_stay HB.out.2 (below1 _ (Nat.le_refl _))
  have K1 := Lib.hid k1
  obtain ⟨c0, c1, c2, c3, c4, c5, hf, hlt⟩ := blk_facts k1
  clear k1 hgrow HL HB
  go_wp2_with fail
  clear c0 c1 c2 c3 c4 c5 hf hlt
  go_loopw [3, 13] (fun v iv wx => ∃ (i : Nat) (d : List (List UInt8)), iv = .int .i64 i ∧ i ≤ S.opn.length ∧ d.length ≤ 8 + i ∧ wx.ownsRow w.heap.size 9 1 v d.length (wcells d) ∧ wx.heap[w.heap.size]? = some (.cells (rc S.hold (.slice ao S.opn.length co) S.mark S.free (.slice at4 S.tkn.length ct4) S.brk) 67 (0, 0)) ∧ Below w.heap.size w wx ∧ Hid (d ++ S.from i = S.tkn ++ S.from 0)) (fun _ v _ => S.opn.length - (intOf v).toNat)
  case atStart => exact ⟨0, S.tkn, rfl, Nat.zero_le _, by omega, hown, K1.out, hb1, Lib.hid rfl⟩
  case round =>
    clear hown hb1 K1
    obtain ⟨i, d, rfl, hil, hd, ho, hB, hb, HD⟩ := hrel
    have hsz := hb.size
    obtain ⟨c0, c1, c2, c3, c4, c5, hf, hlt⟩ := blk_facts hB
    have HB := Lib.hid hB
    clear hB
    by_cases hlt' : i < S.opn.length
    · have hz : (i : Int) < (S.opn.length : Int) := by omega
      have hR := H1.out.below hb
      rcases hR.2 with ⟨_, e⟩ | ⟨g, off, cap, e, hgl, _, _⟩
      · omega
      obtain ⟨rfl, rfl⟩ : ao = some ⟨g, off, none⟩ ∧ co = cap := by injection e with e1 _ e3; exact ⟨e1, e3⟩
      obtain ⟨y0, y1, y2⟩ := RowR.at3 hR i hlt'
      rw [← Nat.add_assoc] at y1 y2
      have Ht2 := Lib.hid (Ht.out i hlt')
      clear hR e
      generalize S.opn.getD i default = Y at *
      have HZ : Hid (∀ o o' : Obj, wr.heap.size + 1 = (wr.alloc o).heap.size ∧ w.heap.size ≤ ((wr.alloc o).alloc o').heap.size) := Lib.hid (fun o o' => by simp; omega)
      by_cases hi0 : i = 0
      · subst hi0
        rw [Nat.zero_mul, Nat.add_zero] at y0 y1 y2
        cases hm : S.mark
        · rw [hm] at c2
          have HD2 := Lib.hid (HD.out.symm.trans (by rw [Ht2.out (by rw [hm]; simp)]))
          have HM := Lib.hid hm
          clear Ht Hs He Ht2 hm
          go_wp2_with (at_builtin; refine wpList_append_own _ rfl _ _ 42 rfl w.heap.size 9 i0 _ 1 16 Tryd.underlying42 hi iz0 iz1 iz2 rfl (by decide) _ _ _ rfl ((ho.alloc _).alloc _) ⟨wr.heap.size + 1, 0, none⟩ 1 1 [.string (ba Y.1)] rfl rfl (cells_new _ _ _ (HZ.out _ (.cells #[] 9)).1) (by simp [Value.oneCell']) (by unfold maxLen; omega) (by omega) (HZ.out _ _).2 ?_)
          intro v' w2 hown' hgrow _
          have R := wd_step (x := Y.1) ((ho.alloc _).alloc _) ((hb.alloc hsz _).alloc (by simp; omega) _) (by simp; omega) hown' hgrow
          have k1 : w2.heap[w.heap.size]? = some (.cells (rc S.hold (.slice (some ⟨g, off, none⟩) S.opn.length co) S.mark S.free (.slice at4 S.tkn.length ct4) S.brk) 67 (0, 0)) := by
            rw [hgrow.block _ (by simp; omega) (fun e => blk_ne (by decide) HB.out (own_base ho) e.symm)]
            exact blk_stay (blk_stay HB.out (below1 _ (Nat.le_refl _))) (below1 _ (Nat.le_refl _))
          have K1 := Lib.hid k1
          clear hown' hgrow ho hb k1 c0 c1 c2 c3 c4 c5 hf hlt
          go_wp2_with fail
          go_roundw
          case rel => exact ⟨0 + 1, d ++ [Y.1], by go_num, by omega, by simp; omega, R.1, by rw [← HM.out]; exact K1.out, R.2, Lib.hid (by rw [List.append_assoc]; exact HD2.out.symm)⟩
          case measure => simp [intOf]; omega
        · rw [hm] at c2
          have HD2 := Lib.hid (HD.out.symm.trans (by rw [Hs.out 0 ⟨rfl, hm⟩]))
          have HM := Lib.hid hm
          clear Ht Hs He Ht2 hm
          go_wp2_with fail
          go_roundw
          case rel => exact ⟨0 + 1, d, by go_num, by omega, by omega, ho.alloc _, by rw [← HM.out]; exact blk_stay HB.out (below1 _ (Nat.le_refl _)), hb.alloc hsz _, Lib.hid HD2.out.symm⟩
          case measure => simp [intOf]; omega
      · have hiz : (0 : Int) < (i : Int) := by omega
        have HD2 := Lib.hid (HD.out.symm.trans (by rw [Ht2.out (by rintro ⟨e, _⟩; exact hi0 e)]))
        clear Ht Hs He Ht2
        go_wp2_with (at_builtin; refine wpList_append_own _ rfl _ _ 42 rfl w.heap.size 9 i0 _ 1 16 Tryd.underlying42 hi iz0 iz1 iz2 rfl (by decide) _ _ _ rfl ((ho.alloc _).alloc _) ⟨wr.heap.size + 1, 0, none⟩ 1 1 [.string (ba Y.1)] rfl rfl (cells_new _ _ _ (HZ.out _ (.cells #[] 9)).1) (by simp [Value.oneCell']) (by unfold maxLen; omega) (by omega) (HZ.out _ _).2 ?_)
        intro v' w2 hown' hgrow _
        have R := wd_step (x := Y.1) ((ho.alloc _).alloc _) ((hb.alloc hsz _).alloc (by simp; omega) _) (by simp; omega) hown' hgrow
        have k1 : w2.heap[w.heap.size]? = some (.cells (rc S.hold (.slice (some ⟨g, off, none⟩) S.opn.length co) S.mark S.free (.slice at4 S.tkn.length ct4) S.brk) 67 (0, 0)) := by
          rw [hgrow.block _ (by simp; omega) (fun e => blk_ne (by decide) HB.out (own_base ho) e.symm)]
          exact blk_stay (blk_stay HB.out (below1 _ (Nat.le_refl _))) (below1 _ (Nat.le_refl _))
        have K1 := Lib.hid k1
        clear hown' hgrow ho hb k1 c0 c1 c2 c3 c4 c5 hf hlt
        go_wp2_with fail
        go_roundw
        case rel => exact ⟨i + 1, d ++ [Y.1], by go_num, by omega, by simp; omega, R.1, K1.out, R.2, Lib.hid (by rw [List.append_assoc]; exact HD2.out.symm)⟩
        case measure => simp [intOf]; omega
    · obtain rfl : i = S.opn.length := by omega
      have hD2 := HD.out.symm.trans (by rw [He.out _ (Nat.le_refl _) hmk.out, List.append_nil])
      have HD2 := Lib.hid hD2
      clear hD2
      have hz : ¬ (S.opn.length : Int) < (S.opn.length : Int) := by omega
      clear Ht Hs He
      rw [HD2.out] at HS
      clear HD2 HD
      obtain ⟨a', cp', rfl⟩ := own_len ho
      have c := newest_any wr a' cp' d (RowR.of_own ho) (by omega)
      go_wp2_with fail
      refine c.mono ?_
      rintro e w2 ⟨v2, rfl, ho2, hb2⟩
      go_wp2_with fail
      go_ret
      exact ⟨_, rfl, by rw [HS.out]; exact RowR.of_own ho2, hb.trans (hb2.mono hsz)⟩
end Go.Proofs.YtheemefggkcfbaaDoor
namespace Go.Proofs.YtheemefggkcfbaaDoor
open Go Go.Lib Go.RowKit Go.Shelf
/-! ### the reference's Fix -/
def Sp.mk1 (S : Sp) : Nat := if S.mark = true then 1 else 0
theorem mk1_count {S : Sp} (h : S.ok) : S.opn.length - S.mk1 = S.count ∧ S.mk1 ≤ S.opn.length ∧ S.opn.length - S.count = S.mk1 := by
  unfold Sp.mk1 Sp.count
  by_cases hm : S.mark = true
  · have := h.mark hm
    rw [if_pos hm, if_pos hm]; omega
  · rw [if_neg hm, if_neg hm]; omega
/-- The taken words: as they came, or a row of its own. -/
def TkRow (w : World) (K : Nat → Prop) (wx : World) (v : Value) (tk : List (List UInt8)) : Prop :=
  (RowR w 1 v tk.length (wcells tk) ∧ ∀ k, v.ownBlock = some k → K k) ∨ wx.ownsRow w.heap.size 9 1 v tk.length (wcells tk)
def RMid (w : World) (K : Nat → Prop) (cs : Array Value) (L : List (List UInt8)) (vL : Value) (Bx : Nat) (wx : World) (v12 v14 : Value) (tk : List (List UInt8)) (d : List Spk) (tx : Value) (bk fx : Bool) : Prop :=
  wx.ownsRow w.heap.size 59 3 v12 d.length (scells d) ∧ v12.ownBlock ≠ some Bx ∧ wx.heap[Bx]? = some (.cells #[tx, .bool bk, .bool fx] 59 (0, 0)) ∧ wx.heap[w.heap.size]? = some (.cells cs 67 (0, 0)) ∧ wx.heap[w.heap.size + 1]? = some (.cells rz 67 (0, 0)) ∧
    Below w.heap.size w wx ∧ wx.ownsRow w.heap.size 9 1 vL L.length (wcells L) ∧ TkRow w K wx v14 tk ∧ w.heap.size ≤ Bx
theorem rmid_dn {w wx : World} {K : Nat → Prop} {cs : Array Value} {L tk : List (List UInt8)} {vL v12 v14 tx : Value} {Bx : Nat} {d : List Spk} {bk fx : Bool} (h : RMid w K cs L vL Bx wx v12 v14 tk d tx bk fx) (n : Nat) : RMid w K cs L vL Bx (wx.drewN n) v12 v14 tk d tx bk fx := by
  obtain ⟨h1, h2, h3, h4, h5, h6, h7, h8, h9⟩ := h
  exact ⟨h1, h2, h3, h4, h5, below_dn h6 n, h7, h8, h9⟩
section
variable {w W W' : World} {K : Nat → Prop} {cs : Array Value} {L tk tk' : List (List UInt8)} {vL v12 v14 v' tx : Value} {Bx : Nat} {d d' : List Spk} {bk fx : Bool}
theorem rmid_step (h : RMid w K cs L vL Bx W v12 v14 tk d tx bk fx) (hb : Below W.heap.size W W') : RMid w K cs L vL Bx W' v12 v14 tk d tx bk fx := by
  obtain ⟨h1, h2, h3, h4, h5, h6, h7, h8, h9⟩ := h
  exact ⟨own_stays h1 hb, h2, blk_stay h3 hb, blk_stay h4 hb, blk_stay h5 hb, h6.trans (hb.mono h6.size), own_stays h7 hb, h8.imp id (fun q => own_stays q hb), h9⟩
theorem rmid_row (h : RMid w K cs L vL Bx W v12 v14 tk d tx bk fx) (ho : W.ownsRow w.heap.size 59 3 v' d'.length (scells d')) (hn : v'.ownBlock ≠ some Bx) : RMid w K cs L vL Bx W v' v14 tk d' tx bk fx := by
  obtain ⟨h1, h2, h3, h4, h5, h6, h7, h8, h9⟩ := h
  exact ⟨ho, hn, h3, h4, h5, h6, h7, h8, h9⟩
theorem rmid_tk (h : RMid w K cs L vL Bx W v12 v14 tk d tx bk fx) (hT : TkRow w K W v' tk') : RMid w K cs L vL Bx W v12 v' tk' d tx bk fx := by
  obtain ⟨h1, h2, h3, h4, h5, h6, h7, h8, h9⟩ := h
  exact ⟨h1, h2, h3, h4, h5, h6, h7, hT, h9⟩
theorem two_blks {B B' : Nat} {E E' : TypeId} {a b : Array Value} (h : W.heap[B]? = some (.cells a E (0, 0))) (h' : W.heap[B']? = some (.cells b E' (0, 0))) (hE : E ≠ E') : B ≠ B' := by
  rintro rfl
  rw [h] at h'
  injection h' with h'
  injection h' with _ h' _
  exact hE h'
theorem rmid_box {tx' : Value} {bk' fx' : Bool} (h : RMid w K cs L vL Bx W v12 v14 tk d tx bk fx) : RMid w K cs L vL Bx (((W.setCell ⟨Bx, 0, none⟩ tx').setCell ⟨Bx, 1, none⟩ (.bool bk')).setCell ⟨Bx, 2, none⟩ (.bool fx')) v12 v14 tk d tx' bk' fx' := by
  obtain ⟨h1, h2, h3, h4, h5, h6, h7, h8, h9⟩ := h
  have n1 := two_blks h3 h4 (by decide)
  have n2 := two_blks h3 h5 (by decide)
  have hB := h9
  exact ⟨own_far (own_far (own_far h1 h2) h2) h2, h2, set3 h3, far_blk (far_blk (far_blk h4 n1) n1) n1, far_blk (far_blk (far_blk h5 n2) n2) n2, ((h6.setCell hB _).setCell hB _).setCell hB _, row9_far3 h7 h3, h8.imp id (fun q => row9_far3 q h3), h9⟩
end
theorem RowR.take1 {w : World} {n c k : Nat} {a : Option Addr} {l : List (List UInt8)} (h : RowR w 1 (.slice a n c) n (wcells l)) (hk : k ≤ n) : RowR w 1 (.slice a k c) k (wcells (l.take k)) := by
  obtain ⟨hl, h' | ⟨g, off, cap, e, hg, hc, hx⟩⟩ := h
  · injection h'.1 with e1 _ e3
    subst e1 e3
    obtain rfl : k = 0 := by omega
    exact ⟨rfl, Or.inl ⟨rfl, rfl⟩⟩
  · injection e with e1 _ e3
    subst e1 e3
    rw [wcells_len] at hl
    have e2 : wcells (l.take k) = (wcells l).take k := by simp [wcells, List.map_take]
    refine ⟨by rw [wcells_len, List.length_take]; omega, Or.inr ⟨g, off, c, rfl, hg, by omega, fun j u hu => ?_⟩⟩
    rw [e2, List.getElem?_take] at hu
    split at hu
    · exact hx j u hu
    · cases hu
/-- Behind an append to the new words. -/
theorem rmid_app {w W w5 : World} {K : Nat → Prop} {cs : Array Value} {L tk : List (List UInt8)} {vL v12 v14 tx : Value} {Bx g cap : Nat} {d d' : List Spk} {bk fx : Bool} {o : Obj} (h : RMid w K cs L vL Bx W v12 v14 tk d tx bk fx)
    (hgrow : (W.alloc o).grownBy w5 v12.ownBlock) (hat : v12.ownBlock = some g ∨ g = W.heap.size + 1) (ho : w5.ownsRow w.heap.size 59 3 (.slice (some ⟨g, 0, none⟩) d'.length cap) d'.length (scells d')) :
    RMid w K cs L vL Bx w5 (.slice (some ⟨g, 0, none⟩) d'.length cap) v14 tk d' tx bk fx := by
  obtain ⟨h1, h2, h3, h4, h5, h6, h7, h8, h9⟩ := h
  obtain ⟨f1, f2, f3, f4⟩ := fix_app h1 h2 h3 h6 h7 hgrow hat ho
  obtain ⟨e1, e2, _, _⟩ := ref_app (below1 (B := W.heap.size) o (Nat.le_refl _)) (own_stays h1 (below1 o (Nat.le_refl _))) h4 h5 h6 h7 hgrow
  exact ⟨ho, f1, f2, e1, e2, f3, f4, h8.imp id (fun q => (own_stays q (below1 o (Nat.le_refl _))).kept hgrow (rows_apart (by decide) (own_stays h1 (below1 o (Nat.le_refl _))) (own_stays q (below1 o (Nat.le_refl _))))), h9⟩
theorem tk_far {w W : World} {K : Nat → Prop} {b o : Nat} {v u : Value} {cs : Array Value} {tk : List (List UInt8)} (h : TkRow w K W v tk) (hb : W.heap[b]? = some (.cells cs 67 (0, 0))) : TkRow w K (W.setCell ⟨b, o, none⟩ u) v tk :=
  h.imp id (fun q => row_far (by decide) hb q)
/-- At the end of Fix: the box takes what is new, the result takes the box. -/
theorem rfix_end {w W : World} {K : Nat → Prop} {ho : Nat} {w0 w4 v12 v14 vL tx x0 x1 x2 x3 x4 x5 : Value} {mk bk0 : Bool} {f0 f1 : Value} {L tk : List (List UInt8)} {Bx : Nat} {d : List Spk} {bk fx m1 : Bool} (h : RMid w K #[.int .i64 ho, w0, .bool mk, f0, w4, .bool bk0] L vL Bx W v12 v14 tk d tx bk fx) :
    Below w.heap.size w ((((((((((W.setCell ⟨w.heap.size, 1, none⟩ v12).setCell ⟨w.heap.size, 4, none⟩ v14).setCell ⟨w.heap.size, 2, none⟩ (.bool m1)).setCell ⟨w.heap.size, 3, none⟩ f1).setCell ⟨w.heap.size + 1, 0, none⟩ x0).setCell ⟨w.heap.size + 1, 1, none⟩ x1).setCell ⟨w.heap.size + 1, 2, none⟩ x2).setCell ⟨w.heap.size + 1, 3, none⟩ x3).setCell ⟨w.heap.size + 1, 4, none⟩ x4).setCell ⟨w.heap.size + 1, 5, none⟩ x5) ∧
    ((((((((((W.setCell ⟨w.heap.size, 1, none⟩ v12).setCell ⟨w.heap.size, 4, none⟩ v14).setCell ⟨w.heap.size, 2, none⟩ (.bool m1)).setCell ⟨w.heap.size, 3, none⟩ f1).setCell ⟨w.heap.size + 1, 0, none⟩ x0).setCell ⟨w.heap.size + 1, 1, none⟩ x1).setCell ⟨w.heap.size + 1, 2, none⟩ x2).setCell ⟨w.heap.size + 1, 3, none⟩ x3).setCell ⟨w.heap.size + 1, 4, none⟩ x4).setCell ⟨w.heap.size + 1, 5, none⟩ x5).heap[w.heap.size + 1]? = some (.cells #[x0, x1, x2, x3, x4, x5] 67 (0, 0)) ∧
    ((((((((((W.setCell ⟨w.heap.size, 1, none⟩ v12).setCell ⟨w.heap.size, 4, none⟩ v14).setCell ⟨w.heap.size, 2, none⟩ (.bool m1)).setCell ⟨w.heap.size, 3, none⟩ f1).setCell ⟨w.heap.size + 1, 0, none⟩ x0).setCell ⟨w.heap.size + 1, 1, none⟩ x1).setCell ⟨w.heap.size + 1, 2, none⟩ x2).setCell ⟨w.heap.size + 1, 3, none⟩ x3).setCell ⟨w.heap.size + 1, 4, none⟩ x4).setCell ⟨w.heap.size + 1, 5, none⟩ x5).ownsRow w.heap.size 59 3 v12 d.length (scells d) ∧
    TkRow w K ((((((((((W.setCell ⟨w.heap.size, 1, none⟩ v12).setCell ⟨w.heap.size, 4, none⟩ v14).setCell ⟨w.heap.size, 2, none⟩ (.bool m1)).setCell ⟨w.heap.size, 3, none⟩ f1).setCell ⟨w.heap.size + 1, 0, none⟩ x0).setCell ⟨w.heap.size + 1, 1, none⟩ x1).setCell ⟨w.heap.size + 1, 2, none⟩ x2).setCell ⟨w.heap.size + 1, 3, none⟩ x3).setCell ⟨w.heap.size + 1, 4, none⟩ x4).setCell ⟨w.heap.size + 1, 5, none⟩ x5) v14 tk := by
  obtain ⟨h1, h2, h3, h4, h5, h6, h7, h8, h9⟩ := h
  have n1 : v12.ownBlock ≠ some w.heap.size := blk_ne (by decide) h4 (own_base h1)
  have n2 : v12.ownBlock ≠ some (w.heap.size + 1) := blk_ne (by decide) h5 (own_base h1)
  have ne : w.heap.size ≠ w.heap.size + 1 := by omega
  have g5 := far_blk (o := 3) (u := f1) (far_blk (o := 2) (u := .bool m1) (far_blk (o := 4) (u := v14) (far_blk (o := 1) (u := v12) h5 ne) ne) ne) ne
  have le : w.heap.size ≤ w.heap.size := Nat.le_refl _
  have t0 := tk_far (o := 1) (u := v12) h8 h4
  have b1 := blk_set (o := 1) (u := v12) h4
  have t1 := tk_far (o := 4) (u := v14) t0 b1
  have b2 := blk_set (o := 4) (u := v14) b1
  have t2 := tk_far (o := 2) (u := .bool m1) t1 b2
  have b3 := blk_set (o := 2) (u := .bool m1) b2
  have t3 := tk_far (o := 3) (u := f1) t2 b3
  have u0 := tk_far (o := 0) (u := x0) t3 g5
  have e0 := blk_set (o := 0) (u := x0) g5
  have u1 := tk_far (o := 1) (u := x1) u0 e0
  have e1 := blk_set (o := 1) (u := x1) e0
  have u2 := tk_far (o := 2) (u := x2) u1 e1
  have e2 := blk_set (o := 2) (u := x2) e1
  have u3 := tk_far (o := 3) (u := x3) u2 e2
  have e3 := blk_set (o := 3) (u := x3) e2
  have u4 := tk_far (o := 4) (u := x4) u3 e3
  have e4 := blk_set (o := 4) (u := x4) e3
  have u5 := tk_far (o := 5) (u := x5) u4 e4
  refine ⟨rb6 ((((h6.setCell le _).setCell le _).setCell le _).setCell le _) (by omega), set6 g5, ?_, u5⟩
  exact own_far (own_far (own_far (own_far (own_far (own_far (own_far (own_far (own_far (own_far h1 n1) n1) n1) n1) n2) n2) n2) n2) n2) n2
theorem nil_below {W w2 : World} (hg : W.grownBy w2 (Value.slice none 0 0).ownBlock) : Below W.heap.size W w2 :=
  app_step (World.ownsRow_nil (w := W) W.heap.size 59 3) (Below.refl _ _) (Nat.le_refl _) hg
set_option maxHeartbeats 8000000 in
set_option maxRecDepth 100000 in
theorem rfix_any (w : World) (K : Nat → Prop) (v : Value) (S : Sp) (k : Nat) (t : ByteArray) (h : RfAt w K v S) (hS : S.ok) (hk1 : 1 ≤ k) (hk8 : k ≤ 8) (ht : t.size ≤ 65536) (hE : Env w) :
    Calls Tryd.prog 81 #[v, .int .i64 k, .string t] w fun e w' => ∃ v', e = .returned (.tuple #[v', .int .i64 (S.fix k t.data.toList).2]) ∧ RfAt w' (up K w) v' (S.fix k t.data.toList).1 ∧ Below w.heap.size w w' := by
  have c := fun W hE => rspk_any t W ht hE
  have Hbad := Lib.hid (@fix_bad S k t.data.toList hk1 hk8)
  have Hnone := Lib.hid (@fix_none S k t.data.toList hk1 hk8)
  have Hto := Lib.hid (@fix_to S k t.data.toList hk1 hk8)
  have hLl : (spkL t.data.toList).length ≤ 65537 := by
    unfold spkL
    split
    · have h := spW_len t.data.toList
      rw [← size_eq] at h; omega
    · simp
  generalize S.fix (k : Int) t.data.toList = R at *
  generalize spkE t.data.toList = E at *
  generalize spkL t.data.toList = L at *
  obtain ⟨vo, vt, rfl, h1, h2, h3, h4⟩ := h
  obtain ⟨ao, co, rfl⟩ := h1.len
  obtain ⟨at4, ct4, rfl⟩ := h2.len
  have hcl := count_le (S := S)
  have hlen := hS.len
  have htk := hS.tkn
  have hfr := hS.free
  have HC : Hid (S.count ≤ S.opn.length ∧ S.opn.length ≤ 400 ∧ S.tkn.length ≤ 8 ∧ S.free ≤ S.opn.length) := Lib.hid ⟨hcl, hlen, htk, hfr⟩
  have HM1 := Lib.hid (mk1_count hS)
  have H1 := Lib.hid (And.intro h1 (And.intro h2 (And.intro h3 h4)))
  clear h1 h2 h3 h4 hS
  have k1 := blk_stay (heap_alloc_new w (.cells (rc S.hold (.slice ao S.opn.length co) S.mark S.free (.slice at4 S.tkn.length ct4) S.brk) 67)) (below1 (.cells rz 67) (Nat.le_refl _))
  have k2 := heap_alloc_new (w.alloc (.cells (rc S.hold (.slice ao S.opn.length co) S.mark S.free (.slice at4 S.tkn.length ct4) S.brk) 67)) (.cells rz 67)
  have hsz : (w.alloc (.cells (rc S.hold (.slice ao S.opn.length co) S.mark S.free (.slice at4 S.tkn.length ct4) S.brk) 67)).heap.size = w.heap.size + 1 := by simp
  rw [hsz] at k2
  have hb0 : Below w.heap.size w ((w.alloc (.cells (rc S.hold (.slice ao S.opn.length co) S.mark S.free (.slice at4 S.tkn.length ct4) S.brk) 67)).alloc (.cells rz 67)) := (below1 _ (Nat.le_refl _)).alloc (by simp) _
  have K0 := Lib.hid (And.intro k1 (And.intro k2 hb0))
  clear k1 k2 hb0 hsz
  have hkz : ¬ (k : Int) < 1 := by omega
  have hkz2 : ¬ (8 : Int) < (k : Int) := by omega
  have hkd : (decide ((k : Int) < 1)) = false := by simp; omega
  go_enter Tryd.func81, Tryd.ntmps81
  go_wp2_with fail
  refine (c _ (hE.below K0.out.2.2)).mono ?_
  rintro e w1 ⟨vL, rfl, ho, hb⟩
  obtain ⟨a, cp, rfl⟩ := own_len ho
  generalize rv S.hold (.slice ao S.opn.length co) S.mark S.free (.slice at4 S.tkn.length ct4) S.brk = V0
  obtain ⟨k1, k2, hb0⟩ := K0.out
  have hz0 := hb0.size
  have HO := Lib.hid (own_low (B' := w.heap.size) ho hz0)
  have HB := Lib.hid (hb0.trans (hb.mono hz0))
  have KK := Lib.hid (And.intro (blk_stay k1 (below_of hb)) (blk_stay k2 (below_of hb)))
  clear K0 hb0 hb ho hz0 c k1 k2
  obtain ⟨k1, k2⟩ := KK.out
  obtain ⟨c0, c1, c2, c3, c4, c5, hf, hlt⟩ := blk_facts k1
  obtain ⟨r0, r1, r2, r3, r4, r5, rf, rlt⟩ := blk_facts k2
  clear k1 k2
  by_cases hE0 : E = 0
  · subst hE0
    clear r0 r1 r2 r3 r4 r5 rf rlt
    go_upto_if 36 with fail
    go_cut [10] (fun v10 wx => v10 = .int .i64 (S.mk1 : Int) ∧ wx = w1)
    case first =>
      have HMk : Hid ((S.mark = true → S.mk1 = 1) ∧ (S.mark = false → S.mk1 = 0)) := Lib.hid ⟨fun e => by unfold Sp.mk1; rw [if_pos e], fun e => by unfold Sp.mk1; rw [if_neg (by simp [e])]⟩
      generalize S.mk1 = m1 at *
      generalize S.mark = M at *
      cases M
      · obtain rfl : m1 = 0 := HMk.out.2 rfl
        go_wp2_with fail
        go_meet
        exact ⟨rfl, rfl⟩
      · obtain rfl : m1 = 1 := HMk.out.1 rfl
        go_wp2_with fail
        go_meet
        exact ⟨rfl, rfl⟩
    case rest =>
      obtain ⟨rfl, rfl⟩ := hcut
      have hm1 := HM1.out
      have hoz : (S.opn.length : Int) - (S.mk1 : Int) = (S.count : Int) := by omega
      by_cases hno : S.count + S.tkn.length < k
      · have HR := Lib.hid (Hnone.out trivial hno)
        have hz : (S.count : Int) + (S.tkn.length : Int) < (k : Int) := by omega
        clear Hbad Hnone Hto
        obtain ⟨r0, r1, r2, r3, r4, r5, rf, rlt⟩ := blk_facts KK.out.2
        go_wp2_with fail
        refine post_as (fun W => Below w.heap.size w W ∧ W.heap[w.heap.size + 1]? = some (.cells (rc S.hold (.slice ao S.opn.length co) S.mark S.free (.slice at4 S.tkn.length ct4) S.brk) 67 (0, 0))) ⟨rb6 HB.out (by omega), set6 KK.out.2⟩ (fun W ⟨q1, q2⟩ => ?_)
        obtain ⟨s0, s1, s2, s3, s4, s5, _, _⟩ := blk_facts q2
        refine bodyPost_ret (v := .tuple #[rv S.hold (.slice ao S.opn.length co) S.mark S.free (.slice at4 S.tkn.length ct4) S.brk, .int .i64 6]) (by simp [results, Tryd.results81, go_sem, s0, s1, s2, s3, s4, s5]) rfl ?_
        rw [HR.out]
        exact ⟨_, rfl, ⟨_, _, rfl, H1.out.1.below q1, H1.out.2.1.below q1, fun k hk => Or.inl (H1.out.2.2.1 k hk), fun k hk => Or.inl (H1.out.2.2.2 k hk)⟩, q1⟩
      · have HR := Lib.hid (Hto.out trivial hno)
        have hz : ¬ (S.count : Int) + (S.tkn.length : Int) < (k : Int) := by omega
        clear Hbad Hnone Hto
        go_wp2_with fail
        have HKP := Lib.hid hno
        have hwz : w.heap.size + 1 < wc.heap.size := heap_lt KK.out.2
        have CS : Hid (_ = _) := Lib.hid (rfl : rc S.hold (.slice ao S.opn.length co) S.mark S.free (.slice at4 S.tkn.length ct4) S.brk = rc S.hold (.slice ao S.opn.length co) S.mark S.free (.slice at4 S.tkn.length ct4) S.brk)
        refine world_as (fun W => RMid w K (rc S.hold (.slice ao S.opn.length co) S.mark S.free (.slice at4 S.tkn.length ct4) S.brk) L (.slice a L.length cp) wc.heap.size W (.slice none 0 0) (.slice at4 S.tkn.length ct4) S.tkn [] (.string ⟨#[]⟩) false true)
          ⟨World.ownsRow_nil _ _ _ _, by simp [Value.ownBlock], heap_alloc_new wc _, blk_stay KK.out.1 (below1 _ (Nat.le_refl _)), blk_stay KK.out.2 (below1 _ (Nat.le_refl _)), HB.out.alloc (by omega) _, own_stays HO.out (below1 _ (Nat.le_refl _)), Or.inl ⟨H1.out.2.1, H1.out.2.2.2⟩, by omega⟩ ?_
        clear c0 c1 c2 c3 c4 c5 hf hlt CS KK HO HB hno hz hoz hm1
        generalize wc.heap.size = B at *
        clear wc
        intro W hW
        have HW := Lib.hid hW
        obtain ⟨-, -, q3, q4, q5, q6, q7, -, -⟩ := hW
        obtain ⟨c0, c1, c2, c3, c4, c5, hf, hlt⟩ := blk_facts q4
        clear q3 q4 q5 q6 q7 c5
        have hMo := Lib.hid (@fixTo_in S k L)
        have hMu := Lib.hid (@fixTo_out S k L)
        have Htr := Lib.hid (@fixTo_rest S k L)
        obtain ⟨TT, hTT⟩ : ∃ TT, TT = S.fixTo k L := ⟨_, rfl⟩
        rw [← hTT] at HR hMo hMu Htr
        clear hTT
        go_quiet (fail)
        go_upto_if 57 with fail
        refine world_as (fun W => RMid w K (rc S.hold (.slice ao S.opn.length co) S.mark S.free (.slice at4 S.tkn.length ct4) S.brk) L (.slice a L.length cp) B W (.slice none 0 0) (.slice at4 S.tkn.length ct4) S.tkn [] (.string ⟨#[]⟩) false true) (rmid_dn HW.out _) ?_
        clear HW c0 c1 c2 c3 c4 hf hlt
        intro W hW
        have HW := Lib.hid hW
        clear hW
        go_cut [12, 14, 15] (fun v12 v14 v15 wx => ∃ d tx bk fx, RMid w K (rc S.hold (.slice ao S.opn.length co) S.mark S.free (.slice at4 S.tkn.length ct4) S.brk) L (.slice a L.length cp) B wx v12 v14 TT.tkn d tx bk fx ∧ v15 = .bool TT.mark ∧ d ++ newW bk fx L = TT.opn ∧ d.length ≤ 401)
        case first =>
          obtain ⟨-, -, q3, q4, q5, q6, q7, -, -⟩ := HW.out
          obtain ⟨c0, c1, c2, c3, c4, c5, hf, hlt⟩ := blk_facts q4
          obtain ⟨x0, x1, x2, xf, xlt⟩ := blk3 q3
          clear q3 q4 q5 q7 c5
          obtain ⟨i0, hi, iz0, iz1, iz2⟩ := info_parts info59
          have HRO := Lib.hid (H1.out.1.below q6)
          have HRT := Lib.hid (H1.out.2.1.below q6)
          have hz6 := q6.size
          clear q6
          by_cases hko : k ≤ S.count
          · have HZ := Lib.hid (hMo.out hko)
            have hkz : (k : Int) ≤ (S.count : Int) := by omega
            obtain ⟨kp, hkp⟩ : ∃ kp : Nat, kp = S.opn.length - k := ⟨_, rfl⟩
            have hkr : (S.opn.length : Int) - (k : Int) = (kp : Int) := by omega
            have hkl : kp ≤ S.opn.length := by omega
            have hkm : kp < S.opn.length := by omega
            have hkm2 : (kp : Int) < (S.opn.length : Int) := by omega
            have HTK : Hid (TT.tkn = S.tkn) := Lib.hid (by rw [Htr.out.2.2.2, show k - S.count = 0 by omega, Nat.sub_zero, List.take_length])
            rw [← hkp] at HZ
            clear hkp
            have hco := HRO.out.cap
            have hdl : (S.opn.take kp).length = kp := by rw [List.length_take]; omega
            have HDL := Lib.hid hdl
            clear hdl
            rcases HRO.out.2 with ⟨_, e⟩ | ⟨g, off, cap, e, hg, _, _⟩
            · omega
            obtain ⟨rfl, rfl⟩ : ao = some ⟨g, off, none⟩ ∧ co = cap := by injection e with e1 _ e3; exact ⟨e1, e3⟩
            clear e
            have HR3 := Lib.hid (RowR.take3 HRO.out hkl)
            go_wp2_with (at_builtin; refine wpList_append_row rfl _ _ 51 rfl W.heap.size 59 i0 _ 3 24 Tryd.underlying51 hi iz0 iz1 iz2 rfl (by decide) (.slice none 0 0) 0 [] rfl (World.ownsRow_nil _ _ _ _) _ kp (scells (S.opn.take kp)) rfl HR3.out (one_scells _) (by unfold maxLen; omega) (by omega) (Nat.le_refl _) ?_)
            intro v' w2 hown hgrow hat
            have hb2 := nil_below hgrow
            obtain ⟨a7, c7, rfl⟩ := own_len hown
            have hn7 : (Value.slice a7 kp c7).ownBlock ≠ some B := fun e => by
              rcases hat with q | q
              · rw [q] at e; cases e
              · rw [q] at e; injection e with e; omega
            have HM := Lib.hid (rmid_row (rmid_step HW.out hb2) (d' := S.opn.take kp) (by rw [HDL.out]; exact own_low hown hz6) hn7)
            have hk4 := HM.out.2.2.2.1
            have hk3 := HM.out.2.2.1
            have hr2 := HRO.out.below hb2
            clear c0 c1 c2 c3 c4 hf hlt x0 x1 x2 xf xlt hown hgrow hat hb2 hn7
            obtain ⟨c0, c1, c2, c3, c4, c5, hf, hlt⟩ := blk_facts hk4
            obtain ⟨x0, x1, x2, xf, xlt⟩ := blk3 hk3
            obtain ⟨y0, y1, y2⟩ := RowR.at3 hr2 kp hkm
            rw [← Nat.add_assoc] at y1 y2
            clear hk4 hk3 hr2 c0 c2 c3 c4 c5 hf
            generalize S.opn.getD kp default = Y at *
            go_wp2_with fail
            go_meet
            exact ⟨S.opn.take kp, _, Y.2.1, Y.2.2, rmid_tk (rmid_box HM.out) (by rw [HTK.out]; exact Or.inl ⟨H1.out.2.1, H1.out.2.2.2⟩), by rw [HZ.out.1], HZ.out.2, by rw [HDL.out]; omega⟩
          · have HZ := Lib.hid (hMu.out hko)
            have hkz : ¬ (k : Int) ≤ (S.count : Int) := by omega
            have hm3 := HM1.out
            have hcc := HC.out
            have hpp := HKP.out
            obtain ⟨r, hr⟩ : ∃ r : Nat, r = S.tkn.length - (k - S.count) := ⟨_, rfl⟩
            have hrr : (S.tkn.length : Int) - ((k : Int) - (S.count : Int)) = (r : Int) := by omega
            have hrN : r ≤ S.tkn.length := by omega
            have hrz : (r : Int) ≤ (S.tkn.length : Int) := by omega
            have HTK : Hid (TT.tkn = S.tkn.take r) := Lib.hid (by rw [Htr.out.2.2.2, ← hr])
            have HTL : Hid ((S.tkn.take r).length = r) := Lib.hid (by rw [List.length_take]; omega)
            rw [hm3.2.2] at HZ
            have hml : S.mk1 ≤ S.opn.length := hm3.2.1
            have hmz : (S.mk1 : Int) ≤ (S.opn.length : Int) := by omega
            have hm1 : S.mk1 ≤ 1 := by unfold Sp.mk1; split <;> omega
            have HDL : Hid ((S.opn.take S.mk1).length = S.mk1) := Lib.hid (by rw [List.length_take]; omega)
            have HR3 := Lib.hid (RowR.take3 HRO.out hml)
            obtain ⟨j0, hj, jz0, jz1, jz2⟩ := info_parts info9
            have hco := HRO.out.cap
            have hct := HRT.out.cap
            clear hr hm3 hcc hpp
            go_wp2_with (at_builtin; refine wpList_append_row rfl _ _ 51 rfl W.heap.size 59 i0 _ 3 24 Tryd.underlying51 hi iz0 iz1 iz2 rfl (by decide) (.slice none 0 0) 0 [] rfl (World.ownsRow_nil _ _ _ _) _ S.mk1 (scells (S.opn.take S.mk1)) rfl HR3.out (one_scells _) (by unfold maxLen; omega) (by omega) (Nat.le_refl _) ?_)
            intro v' w2 hown hgrow hat
            have hb2 := nil_below hgrow
            obtain ⟨a7, c7, rfl⟩ := own_len hown
            have hn7 : (Value.slice a7 S.mk1 c7).ownBlock ≠ some B := fun e => by
              rcases hat with q | q
              · rw [q] at e; cases e
              · rw [q] at e; injection e with e; omega
            have HM := Lib.hid (rmid_row (rmid_step HW.out hb2) (d' := S.opn.take S.mk1) (by rw [HDL.out]; exact own_low hown hz6) hn7)
            have hz2 := hb2.size
            have HE2 := Lib.hid (lit_at w2 w2.heap.size w2.heap.size rfl (Nat.le_refl _))
            have HR1 := Lib.hid (RowR.alloc (RowR.take1 (HRT.out.below hb2) hrN) (.cells #[] 9))
            have hzz : w2.heap.size ≤ (w2.alloc (.cells #[] 9)).heap.size := by simp
            clear c0 c1 c2 c3 c4 hf hlt x0 x1 x2 xf xlt hown hgrow hat hb2 hn7
            go_wp2_with (at_builtin; refine wpList_append_row rfl _ _ 42 rfl w2.heap.size 9 j0 _ 1 16 Tryd.underlying42 hj jz0 jz1 jz2 rfl (by decide) (.slice (some ⟨w2.heap.size, 0, none⟩) 0 0) 0 [] rfl HE2.out _ r (wcells (S.tkn.take r)) rfl HR1.out (one_wcells _) (by unfold maxLen; omega) (by omega) hzz ?_)
            intro v9 w3 hown9 hgrow9 _
            have hb3 := app_step HE2.out (below1 (B := w2.heap.size) (w := w2) (.cells #[] 9) (Nat.le_refl _)) hzz hgrow9
            obtain ⟨a9, c9, rfl⟩ := own_len hown9
            have HM3 := Lib.hid (rmid_tk (rmid_step HM.out hb3) (tk' := TT.tkn) (Or.inr (by rw [HTK.out, HTL.out]; exact own_low hown9 (by omega))))
            have hz3 := hb3.size
            clear hown9 hgrow9 hb3 HE2 HR1 hzz HM
            rcases Bool.eq_false_or_eq_true S.mark with hm | hm
            · have HMk := Lib.hid (HZ.out.2.1 hm)
              have HM1' := Lib.hid HZ.out.1
              go_wp2_with fail
              go_meet
              exact ⟨S.opn.take S.mk1, _, false, true, HM3.out, by rw [HM1'.out, hm], HMk.out, by rw [HDL.out]; omega⟩
            · have HMk := Lib.hid (HZ.out.2.2 hm)
              have HM1' := Lib.hid HZ.out.1
              have hb' : ∀ o : Obj, w.heap.size ≤ (w3.alloc o).heap.size := fun o => by simp; omega
              have HB' := Lib.hid hb'
              clear hb'
              go_wp2_with (at_builtin; refine wpList_append_lies _ rfl _ _ 51 rfl w.heap.size 59 i0 _ 3 24 Tryd.underlying51 hi iz0 iz1 iz2 rfl (by decide) (.slice a7 S.mk1 c7) S.mk1 _ rfl ((by have h := HM3.out.1; rw [HDL.out] at h; exact h : w3.ownsRow w.heap.size 59 3 (.slice a7 S.mk1 c7) S.mk1 (scells (S.opn.take S.mk1))).alloc _) ⟨w3.heap.size, 0, none⟩ 1 1 [.string ⟨#[45, 45]⟩, .bool false, .bool true] rfl rfl (World.news_of_block (cs := #[.string ⟨#[45, 45]⟩, .bool false, .bool true]) (t := 59) (fr := (0, 0)) (heap_alloc_new w3 _)) (by simp [Value.oneCell']) (by decide) (by unfold maxLen; omega) (by omega) (HB'.out _) (w3.heap.size + 1) (by simp) ?_)
              intro gg cap w5 hown5 hgrow5 hat5 hlt5
              have hq := open_stepB (d := S.opn.take S.mk1) (d' := S.opn.take S.mk1 ++ [markS]) (x := markS) hown5 HDL.out.symm rfl
              have hdl' : (S.opn.take S.mk1 ++ [markS]).length = S.mk1 + 1 := by rw [List.length_append, HDL.out]; rfl
              have HQ := Lib.hid (rmid_app (d' := S.opn.take S.mk1 ++ [markS]) (g := gg) (cap := cap) HM3.out hgrow5 hat5 (by rw [hdl'] at hq ⊢; exact hq))
              have HD2 := Lib.hid hdl'
              clear hown5 hgrow5 hat5 hq hdl'
              go_wp2_with fail
              go_meet
              rw [← HD2.out]
              exact ⟨S.opn.take S.mk1 ++ [markS], _, false, true, HQ.out, by rw [HM1'.out], HMk.out, by rw [HD2.out]; omega⟩
        case rest =>
          clear HW hMo hMu
          obtain ⟨d0, tx, bk, fx, hM, rfl, hD, hd0⟩ := hcut
          have HD := Lib.hid hD
          clear hD
          have HM := Lib.hid hM
          have hk4 := hM.2.2.2.1
          clear hM
          obtain ⟨c0, c1, c2, c3, c4, c5, hf, hlt⟩ := blk_facts hk4
          obtain ⟨kp, hkp⟩ : ∃ kp : Nat, kp = S.opn.length - min k S.count := ⟨_, rfl⟩
          have hcc := HC.out
          have hkr : (S.opn.length : Int) - min (k : Int) (S.count : Int) = (kp : Int) := by omega
          obtain ⟨fr, hfr'⟩ : ∃ fr : Nat, fr = min S.free kp := ⟨_, rfl⟩
          have hfz : min (S.free : Int) (kp : Int) = (fr : Int) := by omega
          have HFR : Hid (fr = min S.free (S.opn.length - min k S.count)) := Lib.hid (by rw [hfr', hkp])
          have HLL : Hid (S.opn.length ≤ 400) := Lib.hid hlen
          clear hk4 hkp hfr' c0 c2 c4 c5
          go_wp2_with fail
          clear c1 c3 hf hlt hkr hfz hcc
          go_loopw [12, 111] (fun v12 iv wx => ∃ (i : Nat) (d : List Spk), iv = .int .i64 i ∧ i ≤ L.length ∧ d.length ≤ 401 + i ∧ RMid w K (rc S.hold (.slice ao S.opn.length co) S.mark S.free (.slice at4 S.tkn.length ct4) S.brk) L (.slice a L.length cp) B wx v12 u14 TT.tkn d tx bk fx ∧ Hid (d ++ newGo bk fx i (L.drop i) = TT.opn)) (fun _ v _ => L.length - (intOf v).toNat)
          case atStart => exact ⟨0, d0, rfl, Nat.zero_le _, by omega, HM.out, Lib.hid (by rw [List.drop_zero]; exact HD.out)⟩
          case round =>
            clear HM HD
            obtain ⟨i, d, rfl, hil, hd, hM, HD⟩ := hrel
            have HM := Lib.hid hM
            obtain ⟨q1, q2, q3, q4, q5, q6, q8, q9, q10⟩ := hM
            obtain ⟨a5, c5, rfl⟩ := own_len q1
            by_cases hlt' : i < L.length
            · have hz : (i : Int) < (L.length : Int) := by omega
              obtain ⟨g, rfl, hg, hc⟩ := own_at q8 i hlt'
              rw [strV_ba] at hc
              have HD2 := Lib.hid (HD.out.symm.trans (by rw [newGo_drop bk fx L i hlt']))
              obtain ⟨x0, x1, x2, xf, xlt⟩ := blk3 q3
              have HZZ : Hid (∀ o : Obj, w.heap.size ≤ (wr.alloc o).heap.size) := Lib.hid (fun o => by have := q6.size; simp; omega)
              obtain ⟨i0, hi, iz0, iz1, iz2⟩ := info_parts info59
              clear q1 q2 q3 q4 q5 q6 q8 q9 q10 HD
              generalize hY : L.getD i [] = Y at *
              clear hY
              by_cases hi0 : i = 0
              · subst hi0
                have hiz : ((0 : Int) == 0) = true := rfl
                go_wp2_with (at_builtin; refine wpList_append_lies _ rfl _ _ 51 rfl w.heap.size 59 i0 _ 3 24 Tryd.underlying51 hi iz0 iz1 iz2 rfl (by decide) (.slice a5 d.length c5) d.length _ rfl (HM.out.1.alloc _) ⟨wr.heap.size, 0, none⟩ 1 1 [.string (ba Y), .bool bk, .bool fx] rfl rfl (World.news_of_block (cs := #[.string (ba Y), .bool bk, .bool fx]) (t := 59) (fr := (0, 0)) (heap_alloc_new wr _)) (by simp [Value.oneCell']) (by decide) (by unfold maxLen; omega) (by omega) (HZZ.out _) (wr.heap.size + 1) (by simp) ?_)
                intro gg cap w5 hown hgrow hat hlt5
                have hq := open_stepB (d' := d ++ [(Y, bk, fx)]) (x := (Y, bk, fx)) hown rfl rfl
                have hdl' : (d ++ [(Y, bk, fx)]).length = d.length + 1 := by rw [List.length_append]; rfl
                have HQ := Lib.hid (rmid_app (d' := d ++ [(Y, bk, fx)]) (g := gg) (cap := cap) HM.out hgrow hat (by rw [hdl'] at hq ⊢; exact hq))
                have HD3 := Lib.hid hdl'
                clear hown hgrow hat hq hdl' x0 x1 x2 xf xlt
                go_wp2_with fail
                go_roundw
                case rel => exact ⟨0 + 1, d ++ [(Y, bk, fx)], by go_num, by omega, by rw [HD3.out]; omega, by have := HQ.out; rw [HD3.out] at this; exact this, Lib.hid (by rw [List.append_assoc]; exact HD2.out.symm)⟩
                case measure => simp [intOf]; omega
              · have hiz : ((i : Int) == 0) = false := by simp; omega
                have hin : (i == 0) = false := by simpa using hi0
                rw [hin, Bool.false_and] at HD2
                clear hin
                go_wp2_with (at_builtin; refine wpList_append_lies _ rfl _ _ 51 rfl w.heap.size 59 i0 _ 3 24 Tryd.underlying51 hi iz0 iz1 iz2 rfl (by decide) (.slice a5 d.length c5) d.length _ rfl (HM.out.1.alloc _) ⟨wr.heap.size, 0, none⟩ 1 1 [.string (ba Y), .bool false, .bool fx] rfl rfl (World.news_of_block (cs := #[.string (ba Y), .bool false, .bool fx]) (t := 59) (fr := (0, 0)) (heap_alloc_new wr _)) (by simp [Value.oneCell']) (by decide) (by unfold maxLen; omega) (by omega) (HZZ.out _) (wr.heap.size + 1) (by simp) ?_)
                intro gg cap w5 hown hgrow hat hlt5
                have hq := open_stepB (d' := d ++ [(Y, false, fx)]) (x := (Y, false, fx)) hown rfl rfl
                have hdl' : (d ++ [(Y, false, fx)]).length = d.length + 1 := by rw [List.length_append]; rfl
                have HQ := Lib.hid (rmid_app (d' := d ++ [(Y, false, fx)]) (g := gg) (cap := cap) HM.out hgrow hat (by rw [hdl'] at hq ⊢; exact hq))
                have HD3 := Lib.hid hdl'
                clear hown hgrow hat hq hdl' x0 x1 x2 xf xlt
                go_wp2_with fail
                go_roundw
                case rel => exact ⟨i + 1, d ++ [(Y, false, fx)], by go_num, by omega, by rw [HD3.out]; omega, by have := HQ.out; rw [HD3.out] at this; exact this, Lib.hid (by rw [List.append_assoc]; exact HD2.out.symm)⟩
                case measure => simp [intOf]; omega
            · obtain rfl : i = L.length := by omega
              have hz : ¬ (L.length : Int) < (L.length : Int) := by omega
              have hD2 := HD.out
              rw [newGo_end, List.append_nil] at hD2
              have HD2 := Lib.hid hD2
              have hdt : d.length = TT.opn.length := by rw [hD2]
              obtain ⟨n14, a14, c14, hs14⟩ : ∃ n a c, u14 = .slice a n c := by
                rcases q9 with q | q
                · obtain ⟨a, c, e⟩ := q.1.len; exact ⟨_, a, c, e⟩
                · obtain ⟨a, c, e⟩ := own_len q; exact ⟨_, a, c, e⟩
              subst hs14
              obtain ⟨c0, c1, c2, c3, c4, c5', hf, hlt⟩ := blk_facts q4
              obtain ⟨r0, r1, r2, r3, r4, r5, rf, rlt⟩ := blk_facts q5
              have Q5 := Lib.hid (And.intro q4 (And.intro q5 q6))
              clear hD2 HD q1 q2 q3 q4 q5 q6 q8 q9 q10 hil hlt' hd hd0 hwz hcl hlen htk hfr hLl hkz2
              by_cases hfull : 400 < d.length
              · have hRR := HR.out
                rw [cap_full (by omega)] at hRR
                have HR2 := Lib.hid hRR
                clear hRR hdt HR
                have hfz : (400 : Int) < (d.length : Int) := by omega
                go_upto_region 30 with fail
                go_wp21
                refine post_as (fun W => Below w.heap.size w W ∧ W.heap[w.heap.size + 1]? = some (.cells (rc S.hold (.slice ao S.opn.length co) S.mark S.free (.slice at4 S.tkn.length ct4) S.brk) 67 (0, 0))) ⟨rb6 Q5.out.2.2 (by omega), set6 Q5.out.2.1⟩ (fun W ⟨q1, q2⟩ => ?_)
                obtain ⟨s0, s1, s2, s3, s4, s5, _, _⟩ := blk_facts q2
                refine bodyPost_ret (v := .tuple #[rv S.hold (.slice ao S.opn.length co) S.mark S.free (.slice at4 S.tkn.length ct4) S.brk, .int .i64 9]) (by simp [results, Tryd.results81, go_sem, s0, s1, s2, s3, s4, s5]) rfl ?_
                rw [HR2.out]
                exact ⟨_, rfl, ⟨_, _, rfl, H1.out.1.below q1, H1.out.2.1.below q1, fun k hk => Or.inl (H1.out.2.2.1 k hk), fun k hk => Or.inl (H1.out.2.2.2 k hk)⟩, q1⟩
              · have hRR := HR.out
                rw [cap_fits (by omega)] at hRR
                have HR2 := Lib.hid hRR
                clear hRR hdt HR
                have hfz : ¬ (400 : Int) < (d.length : Int) := by omega
                go_upto_region 32 with fail
                go_wp21
                refine post_as (fun W => Below w.heap.size w W ∧ W.heap[w.heap.size + 1]? = some (.cells (rc S.hold (.slice a5 d.length c5) TT.mark fr (.slice a14 n14 c14) S.brk) 67 (0, 0)) ∧ W.ownsRow w.heap.size 59 3 (.slice a5 d.length c5) d.length (scells d) ∧ TkRow w K W (.slice a14 n14 c14) TT.tkn) (rfix_end HM.out) (fun W ⟨q1, q2, q3, q4⟩ => ?_)
                obtain ⟨s0, s1, s2, s3, s4, s5, _, _⟩ := blk_facts q2
                refine bodyPost_ret (v := .tuple #[rv S.hold (.slice a5 d.length c5) TT.mark fr (.slice a14 n14 c14) S.brk, .int .i64 0]) (by simp [results, Tryd.results81, go_sem, s0, s1, s2, s3, s4, s5]) rfl ?_
                rw [HR2.out]
                obtain ⟨e1, e2, e3, e4⟩ := Htr.out
                have e5 : TT = ⟨S.hold, d, TT.mark, fr, TT.tkn, S.brk⟩ := by
                  rw [HFR.out, ← e3, ← e1, ← e2, HD2.out]
                refine ⟨_, rfl, ?_, q1⟩
                have q5 : RowR W 1 (.slice a14 n14 c14) TT.tkn.length (wcells TT.tkn) ∧ ∀ k, (Value.slice a14 n14 c14).ownBlock = some k → up K w k := by
                  rcases q4 with q | q
                  · exact ⟨q.1.below q1, fun k hk => Or.inl (q.2 k hk)⟩
                  · exact ⟨RowR.of_own q, up_of q (Nat.le_refl _)⟩
                have q6 : RfAt W (up K w) (rv S.hold (.slice a5 d.length c5) TT.mark fr (.slice a14 n14 c14) S.brk) ⟨S.hold, d, TT.mark, fr, TT.tkn, S.brk⟩ := ⟨_, _, rfl, RowR.of_own q3, q5.1, up_of q3 (Nat.le_refl _), q5.2⟩
                rw [← e5] at q6
                exact q6
  · have HR := Lib.hid (Hbad.out hE0)
    have hEz : (E == 0) = false := by simpa using hE0
    clear Hbad Hnone Hto
    go_wp2_with fail
    refine post_as (fun W => Below w.heap.size w W ∧ W.heap[w.heap.size + 1]? = some (.cells (rc S.hold (.slice ao S.opn.length co) S.mark S.free (.slice at4 S.tkn.length ct4) S.brk) 67 (0, 0))) ⟨rb6 HB.out (by omega), set6 KK.out.2⟩ (fun W ⟨q1, q2⟩ => ?_)
    obtain ⟨s0, s1, s2, s3, s4, s5, _, _⟩ := blk_facts q2
    refine bodyPost_ret (v := .tuple #[rv S.hold (.slice ao S.opn.length co) S.mark S.free (.slice at4 S.tkn.length ct4) S.brk, .int .i64 E]) (by simp [results, Tryd.results81, go_sem, s0, s1, s2, s3, s4, s5]) rfl ?_
    rw [HR.out]
    exact ⟨_, rfl, ⟨_, _, rfl, H1.out.1.below q1, H1.out.2.1.below q1, fun k hk => Or.inl (H1.out.2.2.1 k hk), fun k hk => Or.inl (H1.out.2.2.2 k hk)⟩, q1⟩
end Go.Proofs.YtheemefggkcfbaaDoor
namespace Go.Proofs.YtheemefggkcfbaaDoor
open Go Go.Lib Go.RowKit Go.Shelf
/-! ### the reference's Fix at a number out of range -/
set_option maxHeartbeats 4000000 in
set_option maxRecDepth 100000 in
theorem rfix_range_any (w : World) (K : Nat → Prop) (v : Value) (S : Sp) (n : Int) (t : ByteArray) (h : RfAt w K v S) (hn : n < 1 ∨ 8 < n) :
    Calls Tryd.prog 81 #[v, .int .i64 n, .string t] w fun e w' => e = .returned (.tuple #[v, .int .i64 2]) ∧ Below w.heap.size w w' := by
  obtain ⟨vo, vt, rfl, h1, h2, h3, h4⟩ := h
  obtain ⟨ao, co, rfl⟩ := h1.len
  obtain ⟨at4, ct4, rfl⟩ := h2.len
  clear h1 h2 h3 h4
  have hb := (below1 (B := w.heap.size) (w := w) (.cells (rc S.hold (.slice ao S.opn.length co) S.mark S.free (.slice at4 S.tkn.length ct4) S.brk) 67) (Nat.le_refl _)).alloc (by simp) (.cells (rc S.hold (.slice ao S.opn.length co) S.mark S.free (.slice at4 S.tkn.length ct4) S.brk) 67)
  have HB := Lib.hid hb
  clear hb
  rcases Int.lt_or_le n 1 with h1 | h1
  · have hd : (decide (n < 1)) = true := by simpa using h1
    go_enter Tryd.func81, Tryd.ntmps81
    go_wp2_with fail
    go_returns
    exact ⟨rfl, HB.out⟩
  · have h2 : (8 : Int) < n := by omega
    have h3 : ¬ n < 1 := by omega
    have hd : (decide (n < 1)) = false := by simpa using h1
    go_enter Tryd.func81, Tryd.ntmps81
    go_wp2_with fail
    go_returns
    exact ⟨rfl, HB.out⟩
end Go.Proofs.YtheemefggkcfbaaDoor
