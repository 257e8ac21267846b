import Derived.Test.YtheemefggkcfbaaDoorMC
import Derived.IntWalk
import Derived.Laws.AppendOwnNone
import Derived.Maps.AppendAt
import Derived.RegionTactic
import Derived.Deep.RegionHeld3
namespace Go.Proofs.YtheemefggkcfbaaDoor
open Go Go.Lib Go.RowKit Go.Shelf
/-- The elements from the second on. -/
theorem RowR.tail3 {w : World} {n g off cap : Nat} {l : List Spk} (h : RowR w 3 (.slice (some ⟨g, off, none⟩) n cap) n (scells l)) (hn : 0 < n) : RowR w 3 (.slice (some ⟨g, off + 3, none⟩) (n - 1) (cap - 1)) (n - 1) (scells (l.drop 1)) := by
  obtain ⟨hl, h' | ⟨g', off', cap', e, hg, hc, hx⟩⟩ := h
  · cases h'.1
  · injection e with e1 _ e3
    injection e1 with e1
    injection e1 with e1 e2
    subst e1 e2 e3
    rw [scells_len] at hl
    refine ⟨by rw [scells_len, List.length_drop]; omega, Or.inr ⟨g, off + 3, cap - 1, rfl, hg, by omega, fun j u hu => ?_⟩⟩
    have e : (scells (l.drop 1)) = (scells l).drop 3 := by rw [show 3 = 1 * 3 by rfl, scells_drop]
    rw [e, List.getElem?_drop] at hu
    rw [Nat.add_assoc]
    exact hx _ u hu
theorem RowR.gone3 {w : World} {n g off cap : Nat} {l : List Spk} (h : RowR w 3 (.slice (some ⟨g, off, none⟩) n cap) n (scells l)) (hn : n = 1) : RowR w 3 (.slice (some ⟨g, off, none⟩) 0 0) 0 (scells (l.drop 1)) := by
  obtain ⟨hl, h' | ⟨g', off', cap', e, hg, hc, hx⟩⟩ := h
  · cases h'.1
  · injection e with e1 _ e3
    injection e1 with e1
    injection e1 with e1 e2
    subst e1 e2 e3
    rw [scells_len] at hl
    have e : l.drop 1 = [] := by rw [List.drop_eq_nil_iff]; omega
    rw [e]
    exact ⟨rfl, Or.inr ⟨g, off, 0, rfl, hg, Nat.le_refl _, fun j u hu => by simp [scells] at hu⟩⟩
theorem own_capR {w : World} {B e size n m c : Nat} {a : Option Addr} {xs : List Value} (h : w.ownsRow B e size (.slice a m c) n xs) : n ≤ c := by
  rcases h.2 with ⟨e, h0⟩ | ⟨g, cap, cur, e, hB, hh, hcap, _⟩
  · omega
  · injection e with _ _ e; omega
theorem spkV_ba (x : Spk) : spkV x = .agg #[.string (ba x.1), .bool x.2.1, .bool x.2.2] := rfl
theorem blk3 {w : World} {b : Nat} {a0 a1 a2 : Value} {E : TypeId} (h : w.heap[b]? = some (.cells #[a0, a1, a2] E (0, 0))) :
    w.cell? ⟨b, 0, none⟩ = some a0 ∧ w.cell? ⟨b, 1, none⟩ = some a1 ∧ w.cell? ⟨b, 2, none⟩ = some a2 ∧ (∀ o, w.frozen? ⟨b, o, none⟩ = false) ∧ b < w.heap.size := by
  refine ⟨?_, ?_, ?_, fun o => ?_, heap_lt h⟩
  all_goals simp [World.cell?, World.frozen?, h]
theorem set3 {w : World} {b : Nat} {p q r x y z : Value} {E : TypeId} (h : w.heap[b]? = some (.cells #[p, q, r] E (0, 0))) :
    (((w.setCell ⟨b, 0, none⟩ x).setCell ⟨b, 1, none⟩ y).setCell ⟨b, 2, none⟩ z).heap[b]? = some (.cells #[x, y, z] E (0, 0)) := blk_set (blk_set (blk_set h))
/-- What is known of the world at hand, said in words of one's own. -/
theorem world_as {P : Program} {c : Code} {Q : Exit → Act → World → Prop} {a : Act} {w : World} (F : World → Prop) (h : F w) (k : ∀ W, F W → c.wp P Q a W) : c.wp P Q a w := k w h
theorem post_as {P : Program} {fn : Func} {R : Ending → World → Prop} {e : Exit} {a : Act} {w : World} (F : World → Prop) (h : F w) (k : ∀ W, F W → bodyPost P fn R e a W) : bodyPost P fn R e a w := k w h
theorem RowR.own_lt {w : World} {B e s n k : Nat} {v : Value} {xs : List Value} (h : w.ownsRow B e s v n xs) (hk : v.ownBlock = some k) : k < w.heap.size := by
  rcases h.2 with ⟨rfl, _⟩ | ⟨g, cap, cur, rfl, _, hg, _⟩
  · cases hk
  · injection hk with e; subst e; exact heap_lt hg
theorem SpAt.tight {w : World} {O : Nat → Prop} {b : Nat} {S : Sp} (h : SpAt w O b S) : SpAt w (fun k => O k ∧ k < w.heap.size) b S := by
  obtain ⟨vo, vt, h1, h2, h3, h4, h5, h6⟩ := h
  exact ⟨vo, vt, h1, h2, h3, ⟨h4, heap_lt h1⟩, fun k hk => ⟨h5 k hk, (RowR.own_lt h2 hk)⟩, fun k hk => ⟨h6 k hk, (RowR.own_lt h3 hk)⟩⟩
theorem own_far {w : World} {B e s n k o : Nat} {v u : Value} {xs : List Value} (h : w.ownsRow B e s v n xs) (hk : v.ownBlock ≠ some k) : (w.setCell ⟨k, o, none⟩ u).ownsRow B e s v n xs := by
  refine ⟨h.1, ?_⟩
  rcases h.2 with h2 | ⟨g, cap, cur, rfl, hb, hg, rest⟩
  · exact Or.inl h2
  · refine Or.inr ⟨g, cap, cur, rfl, hb, ?_, rest⟩
    rw [heap_setCell_other w ⟨k, o, none⟩ g u (by intro e; exact hk (by rw [e]; rfl))]
    exact hg
theorem SpAt.far {w : World} {O : Nat → Prop} {b k o : Nat} {u : Value} {S : Sp} (h : SpAt w O b S) (hk : ¬ O k) : SpAt (w.setCell ⟨k, o, none⟩ u) O b S := by
  obtain ⟨vo, vt, h1, h2, h3, h4, h5, h6⟩ := h
  refine ⟨vo, vt, ?_, own_far h2 (fun e => hk (h5 k e)), own_far h3 (fun e => hk (h6 k e)), h4, h5, h6⟩
  rw [heap_setCell_other w ⟨k, o, none⟩ b u (by rintro rfl; exact hk h4)]
  exact h1
theorem Within.far {O : Nat → Prop} {a w : World} {k o : Nat} {u : Value} (h : Within O a w) (hk : a.heap.size ≤ k) : Within O a (w.setCell ⟨k, o, none⟩ u) :=
  ⟨h.os, h.tape, h.output, by simpa using h.size, fun j hj hn => by
    rw [heap_setCell_other w ⟨k, o, none⟩ j u (by intro e; subst e; exact absurd hj (by simp; omega))]
    exact h.block j hj hn⟩
theorem Within.weaken {O O' : Nat → Prop} {a w : World} (h : Within O a w) (hO : ∀ k, O k → O' k) : Within O' a w :=
  ⟨h.os, h.tape, h.output, h.size, fun k hk hn => h.block k hk (fun e => hn (hO k e))⟩
theorem Within.then_below {O : Nat → Prop} {a w w' : World} (h : Within O a w) (hb : Below w.heap.size w w') : Within O a w' :=
  h.trans (Within.of_below hb)
theorem own_base {w : World} {B e s n : Nat} {v : Value} {xs : List Value} (h : w.ownsRow B e s v n xs) : w.ownsRow 0 e s v n xs := by
  refine ⟨h.1, ?_⟩
  rcases h.2 with h2 | ⟨g, cap, cur, h2, _, rest⟩
  · exact Or.inl h2
  · exact Or.inr ⟨g, cap, cur, h2, Nat.zero_le _, rest⟩
theorem own_from {w : World} {B e s n k : Nat} {v : Value} {xs : List Value} (h : w.ownsRow B e s v n xs) (hk : v.ownBlock = some k) : B ≤ k := by
  rcases h.2 with ⟨rfl, _⟩ | ⟨g, cap, cur, rfl, hb, _⟩
  · cases hk
  · injection hk with e; subst e; exact hb
section
variable {w : World} {O : Nat → Prop} {b : Nat} {S : Sp}
theorem SpAt.setOpn {v : Value} {l : List Spk} (h : SpAt w O b S) (ho : w.ownsRow 0 59 3 v l.length (scells l)) (hv : ∀ k, v.ownBlock = some k → O k) : SpAt (w.setCell ⟨b, 1, none⟩ v) O b { S with opn := l } := by
  obtain ⟨vo, vt, h1, h2, h3, h4, h5, h6⟩ := h
  exact ⟨v, vt, blk_set h1, row_far (by decide) h1 ho, row_far (by decide) h1 h3, h4, hv, h6⟩
theorem SpAt.setTkn {v : Value} {l : List (List UInt8)} (h : SpAt w O b S) (ho : w.ownsRow 0 9 1 v l.length (wcells l)) (hv : ∀ k, v.ownBlock = some k → O k) : SpAt (w.setCell ⟨b, 4, none⟩ v) O b { S with tkn := l } := by
  obtain ⟨vo, vt, h1, h2, h3, h4, h5, h6⟩ := h
  exact ⟨vo, v, blk_set h1, row_far (by decide) h1 h2, row_far (by decide) h1 ho, h4, h5, hv⟩
theorem SpAt.setMark {m : Bool} (h : SpAt w O b S) : SpAt (w.setCell ⟨b, 2, none⟩ (.bool m)) O b { S with mark := m } := by
  obtain ⟨vo, vt, h1, h2, h3, h4, h5, h6⟩ := h
  exact ⟨vo, vt, blk_set h1, row_far (by decide) h1 h2, row_far (by decide) h1 h3, h4, h5, h6⟩
theorem SpAt.setFree {f : Nat} (h : SpAt w O b S) : SpAt (w.setCell ⟨b, 3, none⟩ (.int .i64 (f : Int))) O b { S with free := f } := by
  obtain ⟨vo, vt, h1, h2, h3, h4, h5, h6⟩ := h
  exact ⟨vo, vt, blk_set h1, row_far (by decide) h1 h2, row_far (by decide) h1 h3, h4, h5, h6⟩
theorem SpAt.own (h : SpAt w O b S) : O b := by
  obtain ⟨vo, vt, h1, h2, h3, h4, h5, h6⟩ := h
  exact h4
theorem blk3_far {k B o : Nat} {u p q r : Value} {E : TypeId} (h : w.heap[B]? = some (.cells #[p, q, r] E (0, 0))) (hk : k ≠ B) : (w.setCell ⟨k, o, none⟩ u).heap[B]? = some (.cells #[p, q, r] E (0, 0)) := by
  rw [heap_setCell_other w ⟨k, o, none⟩ B u (by intro e; exact hk (by rw [e]))]
  exact h
end
/-- Where Take stands: the speaker, the box of the result, the box of the word. -/
def tkO (w W : World) (O : Nat → Prop) (B : Nat) : Nat → Prop := fun k => (O k ∧ k < w.heap.size) ∨ (B < k ∧ k < W.heap.size)
def TkAt (w : World) (O : Nat → Prop) (b B : Nat) (X : Spk) (W : World) (S : Sp) : Prop :=
  SpAt W (tkO w W O B) b S ∧ W.heap[w.heap.size]? = some (.cells #[.string ⟨#[]⟩, .bool false, .bool false] 59 (0, 0)) ∧ W.heap[B]? = some (.cells #[.string (ba X.1), .bool X.2.1, .bool X.2.2] 59 (0, 0)) ∧ w.heap.size < B ∧ Within O w W ∧ (O b ∧ b < w.heap.size)
theorem tk_one {w W W2 : World} {O : Nat → Prop} {b B : Nat} {X : Spk} {S : Sp} {v4 : Value} (h : SpAt W (fun k => O k ∧ k < w.heap.size) b S) (hbW : Below w.heap.size w W) (hlt1 : w.heap.size < B) (hWB : B < W.heap.size)
    (hRW : W.heap[w.heap.size]? = some (.cells #[.string ⟨#[]⟩, .bool false, .bool false] 59 (0, 0))) (hXW : W.heap[B]? = some (.cells #[.string (ba X.1), .bool X.2.1, .bool X.2.2] 59 (0, 0))) (hb2 : Below W.heap.size W W2)
    (ho : W2.ownsRow W.heap.size 59 3 v4 (S.opn.drop 1).length (scells (S.opn.drop 1))) :
    TkAt w O b B X (W2.setCell ⟨b, 1, none⟩ v4) { S with opn := S.opn.drop 1 } := by
  have hb := h.own
  have hz := hb2.size
  have h2 : SpAt W2 (tkO w W2 O B) b S := (h.below hb2).weaken (fun k hk => Or.inl hk)
  have h3 := h2.setOpn (own_base ho) (fun k hk => Or.inr ⟨by have := own_from ho hk; omega, RowR.own_lt ho hk⟩)
  have hbl := hb.2
  refine ⟨?_, blk3_far (blk_stay hRW hb2) (by omega), blk3_far (blk_stay hXW hb2) (by omega), hlt1, (Within.of_below (hbW.trans (hb2.mono hbW.size))).set hb.1, hb⟩
  unfold tkO at h3 ⊢
  simpa using h3
section
variable {w W w5 : World} {O : Nat → Prop} {b B : Nat} {X : Spk} {S : Sp}
theorem TkAt.free {f : Nat} (h : TkAt w O b B X W S) : TkAt w O b B X (W.setCell ⟨b, 3, none⟩ (.int .i64 (f : Int))) { S with free := f } := by
  obtain ⟨h1, h2, h3, h4, h5, h6⟩ := h
  refine ⟨?_, blk3_far h2 (by omega), blk3_far h3 (by omega), h4, h5.set h6.1, h6⟩
  have := h1.setFree (f := f)
  unfold tkO at this ⊢
  simpa using this
theorem TkAt.mark {m : Bool} (h : TkAt w O b B X W S) : TkAt w O b B X (W.setCell ⟨b, 2, none⟩ (.bool m)) { S with mark := m } := by
  obtain ⟨h1, h2, h3, h4, h5, h6⟩ := h
  refine ⟨?_, blk3_far h2 (by omega), blk3_far h3 (by omega), h4, h5.set h6.1, h6⟩
  have := h1.setMark (m := m)
  unfold tkO at this ⊢
  simpa using this
theorem TkAt.fin {x y z : Value} (h : TkAt w O b B X W S) : SpAt (((W.setCell ⟨w.heap.size, 0, none⟩ x).setCell ⟨w.heap.size, 1, none⟩ y).setCell ⟨w.heap.size, 2, none⟩ z) (grow O w (((W.setCell ⟨w.heap.size, 0, none⟩ x).setCell ⟨w.heap.size, 1, none⟩ y).setCell ⟨w.heap.size, 2, none⟩ z)) b S ∧
    (((W.setCell ⟨w.heap.size, 0, none⟩ x).setCell ⟨w.heap.size, 1, none⟩ y).setCell ⟨w.heap.size, 2, none⟩ z).heap[w.heap.size]? = some (.cells #[x, y, z] 59 (0, 0)) ∧ Within O w (((W.setCell ⟨w.heap.size, 0, none⟩ x).setCell ⟨w.heap.size, 1, none⟩ y).setCell ⟨w.heap.size, 2, none⟩ z) := by
  obtain ⟨h1, h2, h3, h4, h5, h6⟩ := h
  have hn : ¬ tkO w W O B w.heap.size := by rintro (e | e) <;> omega
  refine ⟨(((h1.far hn).far hn).far hn).weaken (fun k hk => ?_), set3 h2, ((h5.far (Nat.le_refl _)).far (Nat.le_refl _)).far (Nat.le_refl _)⟩
  rcases hk with hk | hk
  · exact Or.inl hk.1
  · exact Or.inr ⟨by omega, by simpa using hk.2⟩
theorem TkAt.clone {v : Value} {l : List (List UInt8)} (h : TkAt w O b B X W S) (hb : Below W.heap.size W w5) (ho : w5.ownsRow W.heap.size 9 1 v l.length (wcells l)) : TkAt w O b B X (w5.setCell ⟨b, 4, none⟩ v) { S with tkn := l } := by
  obtain ⟨h1, h2, h3, h4, h5, h6⟩ := h
  have hz := hb.size
  have hB := heap_lt h3
  have h7 : SpAt w5 (tkO w w5 O B) b S := (h1.below hb).weaken (fun k hk => by
    rcases hk with hk | hk
    · exact Or.inl hk
    · exact Or.inr ⟨hk.1, by omega⟩)
  refine ⟨?_, blk3_far (blk_stay h2 hb) (by omega), blk3_far (blk_stay h3 hb) (by omega), h4, (h5.then_below hb).set h6.1, h6⟩
  have := h7.setTkn (own_base ho) (fun k hk => Or.inr ⟨by have := own_from ho hk; omega, RowR.own_lt ho hk⟩)
  unfold tkO at this ⊢
  simpa using this
theorem TkAt.app {vo vt : Value} {o : Obj} {g c : Nat} {l : List (List UInt8)} (h : TkAt w O b B X W S) (h1 : W.heap[b]? = some (.cells (spc S.hold vo S.mark S.free vt S.brk) 88 (0, 0)))
    (h2 : W.ownsRow 0 59 3 vo S.opn.length (scells S.opn)) (h3 : W.ownsRow 0 9 1 vt S.tkn.length (wcells S.tkn)) (h5 : ∀ k, vo.ownBlock = some k → tkO w W O B k) (h6 : ∀ k, vt.ownBlock = some k → tkO w W O B k)
    (hgrow : (W.alloc o).drew.grownBy w5 vt.ownBlock) (hat : vt.ownBlock = some g ∨ g = (W.alloc o).drew.heap.size) (hg : g < w5.heap.size) (ho : w5.ownsRow 0 9 1 (.slice (some ⟨g, 0, none⟩) l.length c) l.length (wcells l)) :
    TkAt w O b B X (w5.setCell ⟨b, 4, none⟩ (.slice (some ⟨g, 0, none⟩) l.length c)) { S with tkn := l } := by
  obtain ⟨_, k2, k3, k4, k5, k6⟩ := h
  have hbb : Below W.heap.size W (W.alloc o).drew := (below1 o (Nat.le_refl _)).drew
  have hz1 := hbb.size
  have hz2 := hgrow.size
  have hzd : (W.alloc o).drew.heap.size = W.heap.size + 1 := by simp
  have hB := heap_lt k3
  have hne : some b ≠ vt.ownBlock := fun e => blk_ne (by decide) h1 h3 e.symm
  have hn0 : some w.heap.size ≠ vt.ownBlock := fun e => by rcases h6 _ e.symm with q | q <;> omega
  have hnB : some B ≠ vt.ownBlock := fun e => by rcases h6 _ e.symm with q | q <;> omega
  have st : ∀ k, k < W.heap.size → some k ≠ vt.ownBlock → w5.heap[k]? = W.heap[k]? := fun k hk hn => (hgrow.block k (by omega) hn).trans (hbb.block k hk)
  have hO : ∀ k, tkO w W O B k → tkO w w5 O B k := fun k hk => by
    rcases hk with hk | hk
    · exact Or.inl hk
    · exact Or.inr ⟨hk.1, by omega⟩
  have hlb := heap_lt h1
  have hb5 : w5.heap[b]? = some (.cells (spc S.hold vo S.mark S.free vt S.brk) 88 (0, 0)) := (st b hlb hne).trans h1
  have ho5 : w5.ownsRow 0 59 3 vo S.opn.length (scells S.opn) := (own_stays h2 hbb).kept hgrow (rows_apart (by decide) (own_stays h3 hbb) (own_stays h2 hbb))
  have hW5 : Within O w w5 := ⟨by rw [hgrow.os, hbb.os, k5.os], by rw [hgrow.tape, hbb.tape, k5.tape], by rw [hgrow.output, hbb.output, k5.output], by have := k5.size; omega, fun k hk hn => by
    have := k5.size
    rw [st k (by omega) (fun e => by rcases h6 _ e.symm with q | q; exact hn q.1; omega), k5.block k hk hn]⟩
  refine ⟨⟨vo, _, blk_set hb5, row_far (by decide) hb5 ho5, row_far (by decide) hb5 ho, Or.inl k6, fun k hk => ?_, fun k hk => ?_⟩, blk3_far ((st _ (by omega) hn0).trans k2) (by omega), blk3_far ((st _ hB hnB).trans k3) (by omega), k4, hW5.set k6.1, k6⟩
  · have := hO k (h5 k hk)
    unfold tkO at this ⊢
    simpa using this
  · injection hk with e
    subst e
    rcases hat with e | e
    · have := hO _ (h6 _ e)
      unfold tkO at this ⊢
      simpa using this
    · right
      simp at *
      omega
end
set_option maxHeartbeats 8000000 in
set_option maxRecDepth 100000 in
theorem take_any (w : World) (O : Nat → Prop) (b : Nat) (S : Sp) (h : SpAt w O b S) (hS : S.ok) :
    Calls Tryd.prog 41 #[ptr b] w fun e w' => e = .returned (.tuple #[spkV S.peek, .bool S.can]) ∧ SpAt w' (grow O w w') b S.take ∧ Within O w w' := by
  have Hn := Lib.hid (@take_none S)
  have Hm := Lib.hid (@take_mark S)
  have Hw := Lib.hid (@take_word S)
  have Hl := Lib.hid (@can_len S)
  have HT := Lib.hid h
  have HS := Lib.hid hS
  clear h hS
  go_enter Tryd.func41, Tryd.ntmps41
  go_wp2_with fail
  refine (peek_any _ O b S (HT.out.below (below1 _ (Nat.le_refl _))) HS.out).mono ?_
  rintro e w1 ⟨rfl, hb1⟩
  have hb := (below1 (B := w.heap.size) (w := w) (.cells #[.string ⟨#[]⟩, .bool false, .bool false] 59) (Nat.le_refl _)).trans (hb1.mono (by simp))
  have hR := blk_stay (heap_alloc_new w (.cells #[.string ⟨#[]⟩, .bool false, .bool false] 59)) hb1
  have hlt1 : w.heap.size < w1.heap.size := heap_lt hR
  rw [spkV_ba]
  rcases Bool.eq_false_or_eq_true S.can with hcan | hcan
  · have hl := Hl.out hcan
    have HS8 : Hid (S.opn.length ≤ 400 ∧ S.free ≤ S.opn.length ∧ S.tkn.length ≤ 8) := Lib.hid ⟨HS.out.len, HS.out.free, HS.out.tkn⟩
    have HC := Lib.hid hcan
    have Hm2 := Lib.hid (Hm.out hcan)
    have Hw2 := Lib.hid (Hw.out hcan)
    rw [hcan]
    clear hcan Hn Hm Hw Hl
    generalize hX' : S.peek = X
    have hX := Lib.hid hX'
    have HN : Hid (S.peek.1 = X.1) := Lib.hid (by rw [hX'])
    clear hX'
    go_upto_region 4 with fail
    refine world_as (fun W => Below w.heap.size w W ∧ W.heap[w.heap.size]? = some (.cells #[.string ⟨#[]⟩, .bool false, .bool false] 59 (0, 0)) ∧ W.heap[w1.heap.size]? = some (.cells #[.string (ba X.1), .bool X.2.1, .bool X.2.2] 59 (0, 0)))
      ⟨hb.alloc (by omega) _, blk_stay hR (below1 _ (Nat.le_refl _)), heap_alloc_new w1 _⟩ ?_
    rintro W ⟨hbW, hRW, hXW⟩
    have hWB : w1.heap.size < W.heap.size := heap_lt hXW
    clear hb hR hb1
    generalize w1.heap.size = B at *
    clear w1
    go_cut [] (fun wx => TkAt w O b B X wx { S with opn := S.opn.drop 1 })
    case first =>
      have HA := Lib.hid (HT.out.tight.below hbW)
      obtain ⟨vo, vt, h1, h2, h3, h4, h5, h6⟩ := HA.out
      obtain ⟨g, co, rfl, _, hg⟩ := h2.form hl
      have hRo := RowR.of_own h2
      have hcap : S.opn.length ≤ co := own_capR h2
      have hn4 := HS8.out.1
      have cl : ∀ a' c', RowR W 3 (.slice a' (S.opn.length - 1) c') (S.opn.length - 1) (scells (S.opn.drop 1)) → Calls Tryd.prog 75 #[.slice a' (S.opn.length - 1) c'] W (Made W.heap.size 59 3 (S.opn.length - 1) (scells (S.opn.drop 1)) W) := fun a' c' hr => clone59 W _ _ _ hr (one_scells _) (by omega)
      have HD : Hid ((S.opn.drop 1).length = S.opn.length - 1) := Lib.hid (List.length_drop ..)
      have HO : Hid (∀ v4 W2, Below W.heap.size W W2 → W2.ownsRow W.heap.size 59 3 v4 (S.opn.length - 1) (scells (S.opn.drop 1)) → TkAt w O b B X (W2.setCell ⟨b, 1, none⟩ v4) { S with opn := S.opn.drop 1 }) :=
        Lib.hid (fun v4 W2 hb2 ho2 => tk_one HA.out hbW hlt1 hWB hRW hXW hb2 (by rw [HD.out]; exact ho2))
      have HB := Lib.hid h1
      obtain ⟨c0, c1, c2, c3, c4, c5, hf, hlt⟩ := blk_facts h1
      clear h1 h3 h4 h5 h6 hRW hXW HA HD c0 c2 c3 c4 c5 hf hlt
      generalize S.opn.length = N at *
      have hq : (1 : Int) ≤ (N : Int) := by omega
      by_cases h1c : co = 1
      case' pos =>
        have hn1 : N = 1 := by omega
        have hr := RowR.gone3 hRo hn1
        subst hn1 h1c
        have cl1 := cl _ _ hr
        clear cl h2 hRo hr hl hcap
        go_wp2_with fail
      case' neg =>
        have hr := RowR.tail3 hRo hl
        have cl1 := cl _ _ hr
        clear cl h2 hRo hr hl
        go_wp2_with fail
      all_goals
        refine cl1.mono ?_
        rintro e W2 ⟨v4, rfl, ho4, hb4⟩
        obtain ⟨a4, e4, rfl⟩ := own_len ho4
        have hT := Lib.hid (HO.out _ W2 hb4 ho4)
        clear HO cl1 ho4 c1
        obtain ⟨c0, c1, c2, c3, c4, c5, hf, hlt⟩ := blk_facts (blk_stay HB.out hb4)
        go_wp2_with fail
        go_meet
        exact hT.out
    case rest =>
      clear hRW hXW
      have hz0 : S.free ≤ 400 := by have := HS8.out; omega
      have HFr : Hid (max (S.free : Int) 1 - 1 = ((S.free - 1 : Nat) : Int)) := Lib.hid (by omega)
      obtain ⟨⟨vo, vt, h1, h2, h3, h4, h5, h6⟩, hR, hXB, hwB, hWi, hOb⟩ := hcut
      have HT2 : Hid (TkAt w O b B X wc { S with opn := S.opn.drop 1 }) := Lib.hid ⟨⟨vo, vt, h1, h2, h3, h4, h5, h6⟩, hR, hXB, hwB, hWi, hOb⟩
      have n1 : b ≠ B := by have := hOb.2; omega
      have n2 : B ≠ b := n1.symm
      have n3 : b ≠ w.heap.size := by have := hOb.2; omega
      have n4 : w.heap.size ≠ b := n3.symm
      obtain ⟨c0, c1, c2, c3, c4, c5, hf, hlt⟩ := blk_facts h1
      dsimp only at c0 c1 c2 c3 c4 c5
      clear hWi hOb h1 h2 h3 h4 h5 h6 hR hXB c0 c1 c2 c4 c5
      go_upto_region 6 with fail
      refine world_as (fun W3 => TkAt w O b B X W3 { S with opn := S.opn.drop 1, free := S.free - 1 }) (by have h := HT2.out.free (f := S.free - 1); rw [← HFr.out] at h; exact h) ?_
      clear HT2 c3 hf hlt HFr
      intro W3 hT3
      have HT3 := Lib.hid hT3
      obtain ⟨⟨vo, vt, h1, h2, h3, h4, h5, h6⟩, hR, hXB, _, hWi, hOb⟩ := hT3
      clear hWi hOb h4 hz0
      obtain ⟨c0, c1, c2, c3, c4, c5, hf, hlt⟩ := blk_facts h1
      obtain ⟨r0, r1, r2, rf, rlt⟩ := blk3 hR
      obtain ⟨x0, x1, x2, xf, xlt⟩ := blk3 hXB
      dsimp only at c0 c1 c2 c3 c4 c5
      have HM : Hid (S.mark = true ∨ S.mark = false) := Lib.hid (by cases S.mark <;> simp)
      rcases HM.out with hm | hm
      · have E1 := Lib.hid (Hm2.out hm)
        rw [hm] at c2
        clear hm HM Hm2 Hw2 h1 h2 h3 h5 h6
        go_wp2_with fail
        refine post_as (fun W4 => SpAt W4 (grow O w W4) b S.take ∧ W4.heap[w.heap.size]? = some (.cells #[.string (ba X.1), .bool X.2.1, .bool X.2.2] 59 (0, 0)) ∧ Within O w W4) (by rw [E1.out.1]; exact (HT3.out.mark (m := false)).fin) (fun W4 ⟨q1, q2, q3⟩ => ?_)
        obtain ⟨s0, s1, s2, _, _⟩ := blk3 q2
        refine bodyPost_ret (v := .tuple #[spkV X, .bool true]) (by simp [results, Tryd.results41, go_sem, s0, s1, s2]; rfl) rfl ?_
        rw [hX.out, HC.out]
        exact ⟨rfl, q1, q3⟩
      · have E1 := Lib.hid (Hw2.out hm)
        have HM2 := Lib.hid hm
        rw [hm] at c2
        clear hm HM Hm2 Hw2
        go_upto_region 9 with fail
        clear c0 c1 c2 c3 c5 r0 r1 r2 rf rlt x1 x2 xf
        go_cut [] (fun wx => TkAt w O b B X wx { S with opn := S.opn.drop 1, free := S.free - 1, tkn := S.tkn ++ [X.1] })
        case first =>
          obtain ⟨at4, ct4, rfl⟩ := own_len h3
          have ht8 := HS8.out.2.2
          have HH : Hid (_ ∧ _ ∧ _ ∧ _ ∧ _) := Lib.hid ⟨h1, h2, h3, h5, h6⟩
          have hne0 : some b ≠ (Value.slice at4 S.tkn.length ct4).ownBlock := fun e => blk_ne (by decide) h1 h3 e.symm
          have hneB : some B ≠ (Value.slice at4 S.tkn.length ct4).ownBlock := fun e => by rcases h6 _ e.symm with q | q <;> omega
          clear h1 h2 h5 h6 hR hXB
          obtain ⟨i0, hi, iz0, iz1, iz2⟩ := info_parts info9
          have hk1 := (below1 (B := W3.heap.size) (w := W3) (.cells #[.string (ba X.1)] 9) (Nat.le_refl _)).cell (p := ⟨b, 4, none⟩) hlt
          have hk2 := (below1 (B := W3.heap.size) (w := W3) (.cells #[.string (ba X.1)] 9) (Nat.le_refl _)).cell (p := ⟨B, 0, none⟩) xlt
          have hk3 := (below1 (B := W3.heap.size) (w := W3) (.cells #[.string (ba X.1)] 9) (Nat.le_refl _)).frozen (p := ⟨b, 4, none⟩) hlt
          rw [c4] at hk1
          rw [x0] at hk2
          have hf4' := hf 4
          rw [hf4'] at hk3
          refine wp_region_tail 9 (S := (fun w' => w'.cell? ⟨b, 4, none⟩ = some (.slice at4 S.tkn.length ct4) ∧ w'.cell? ⟨B, 0, none⟩ = some (.string (ba X.1)) ∧ w'.frozen? ⟨b, 4, none⟩ = false)) (by kernel_rfl) ⟨c4, x0, hf4'⟩ (fun hHeld => ?_)
          simp only [List.size_toArray, List.length_cons, List.length_nil, Nat.zero_add, Nat.reduceAdd]
          refine wpAnyT_take (i := 0) (oi := { dst := some 40, op := Go.Op.move (Go.Operand.tmp 0), type := 48, pos := "respeak.go:167", after := #[], guard := none }) (v := ?_) rfl (by kernel_rfl) (by kernel_rfl) (by kernel_rfl) (by kernel_rfl) (fun _ _ _ h => h) (Or.inl ⟨by rfl, ?_⟩) (by assumption) ?_
          rotate_left
          · intro w hSw
            (try dsimp only at hSw)
            go_simp
            all_goals (with_reducible rfl)
          try simp only [Act.put, List.setIfInBounds_toArray, List.set_cons_zero, List.set_cons_succ]
          refine wpAnyT_take (i := 1) (oi := { dst := some 41, op := Go.Op.move (Go.Operand.tmp 0), type := 48, pos := "respeak.go:167", after := #[], guard := none }) (v := ?_) rfl (by kernel_rfl) (by kernel_rfl) (by kernel_rfl) (by kernel_rfl) (fun _ _ _ h => h) (Or.inl ⟨by rfl, ?_⟩) (by assumption) ?_
          rotate_left
          · intro w hSw
            (try dsimp only at hSw)
            go_simp
            all_goals (with_reducible rfl)
          try simp only [Act.put, List.setIfInBounds_toArray, List.set_cons_zero, List.set_cons_succ]
          refine wpAnyT_take (i := 2) (oi := { dst := some 42, op := Go.Op.nilCheck (Go.Operand.tmp 41), type := 0, pos := "respeak.go:167", after := #[{ on := 1, ground := Go.Ground.data }], guard := none }) (v := ?_) rfl (by kernel_rfl) (by kernel_rfl) (by kernel_rfl) (by kernel_rfl) (fun _ _ _ h => h) (Or.inl ⟨by rfl, ?_⟩) (by assumption) ?_
          rotate_left
          · intro w hSw
            (try dsimp only at hSw)
            go_simp
            all_goals (with_reducible rfl)
          try simp only [Act.put, List.setIfInBounds_toArray, List.set_cons_zero, List.set_cons_succ]
          refine wpAnyT_take (i := 3) (oi := { dst := some 43, op := Go.Op.fieldAddr 88 (Go.Operand.tmp 42) 4, type := 0, pos := "respeak.go:167", after := #[{ on := 2, ground := Go.Ground.data }], guard := none }) (v := ?_) rfl (by kernel_rfl) (by kernel_rfl) (by kernel_rfl) (by kernel_rfl) (fun _ _ _ h => h) (Or.inl ⟨by rfl, ?_⟩) (by assumption) ?_
          rotate_left
          · intro w hSw
            (try dsimp only at hSw)
            go_simp
            all_goals (with_reducible rfl)
          try simp only [Act.put, List.setIfInBounds_toArray, List.set_cons_zero, List.set_cons_succ]
          refine wpAnyT_take (i := 4) (oi := { dst := some 44, op := Go.Op.load 42 (Go.Operand.tmp 43), type := 42, pos := "respeak.go:167", after := #[{ on := 3, ground := Go.Ground.data }], guard := none }) (v := ?_) rfl (by kernel_rfl) (by kernel_rfl) (by kernel_rfl) (by kernel_rfl) (fun _ _ _ h => h) (Or.inl ⟨by rfl, ?_⟩) (by assumption) ?_
          rotate_left
          · intro w hSw
            (try dsimp only at hSw)
            go_simp
            all_goals (with_reducible rfl)
          try simp only [Act.put, List.setIfInBounds_toArray, List.set_cons_zero, List.set_cons_succ]
          refine wpAnyT_take (i := 5) (oi := { dst := some 45, op := Go.Op.fieldAddr 59 (Go.Operand.tmp 4) 0, type := 0, pos := "respeak.go:167", after := #[], guard := none }) (v := ?_) rfl (by kernel_rfl) (by kernel_rfl) (by kernel_rfl) (by kernel_rfl) (fun _ _ _ h => h) (Or.inl ⟨by rfl, ?_⟩) (by assumption) ?_
          rotate_left
          · intro w hSw
            (try dsimp only at hSw)
            go_simp
            all_goals (with_reducible rfl)
          try simp only [Act.put, List.setIfInBounds_toArray, List.set_cons_zero, List.set_cons_succ]
          refine wpAnyT_take (i := 6) (oi := { dst := some 46, op := Go.Op.load 9 (Go.Operand.tmp 45), type := 9, pos := "respeak.go:167", after := #[{ on := 5, ground := Go.Ground.data }], guard := none }) (v := ?_) rfl (by kernel_rfl) (by kernel_rfl) (by kernel_rfl) (by kernel_rfl) (fun _ _ _ h => h) (Or.inl ⟨by rfl, ?_⟩) (by assumption) ?_
          rotate_left
          · intro w hSw
            (try dsimp only at hSw)
            go_simp
            all_goals (with_reducible rfl)
          try simp only [Act.put, List.setIfInBounds_toArray, List.set_cons_zero, List.set_cons_succ]
          refine wpAnyT_one (i := 7) (o := { dst := some 47, op := Go.Op.buildSlice 42 1 #[(0, Go.Operand.tmp 46)], type := 42, pos := "respeak.go:167", after := #[{ on := 6, ground := Go.Ground.data }], guard := none }) (by kernel_rfl) rfl (fun K hK => ?_)
          go_simp
          refine hK.out _ _ ⟨hk1, hk2, hk3⟩ (fun hHeld => ?_)
          clear hK K
          try simp only [Act.put, List.setIfInBounds_toArray, List.set_cons_zero, List.set_cons_succ]
          refine wpAnyT_one (i := 8) (o := { dst := some 48, op := Go.Op.call { callee := Go.Callee.builtin Go.Builtin.append, args := #[Go.Operand.tmp 44, Go.Operand.tmp 47], argTypes := #[42, 42] }, type := 42, pos := "respeak.go:167", after := #[{ on := 4, ground := Go.Ground.data }, { on := 7, ground := Go.Ground.data }], guard := none }) (by kernel_rfl) rfl (fun K hK => ?_)
          refine step_append_lies _ (by rfl) _ _ _ (by rfl) 0 9 i0 _ 1 16 Tryd.underlying42 hi iz0 iz1 iz2 rfl (by omega) (.slice at4 S.tkn.length ct4) S.tkn.length (wcells S.tkn) (by rfl) ((h3.alloc _).drew) ⟨W3.heap.size, 0, none⟩ 1 1 [.string (ba X.1)] (by rfl) (by rfl) (World.news_of_block (cs := #[.string (ba X.1)]) (t := 9) (fr := (0, 0)) (heap_alloc_new W3 _)) (by simp [Value.oneCell']) (by omega) (by unfold maxLen; omega) (by omega) (by simp) (W3.heap.size + 1) (by simp) ?_
          intro gg cap w1 hown1 hgrow hat hltg
          refine hK.out _ _ ⟨(hgrow.cell_far ⟨b, 4, none⟩ (by simp; omega) hne0).trans hk1, (hgrow.cell_far ⟨B, 0, none⟩ (by simp; omega) hneB).trans hk2, (hgrow.frozen_far ⟨b, 4, none⟩ (by simp; omega) hne0).trans hk3⟩ (fun hHeld => ?_)
          clear hK K
          try simp only [Act.put, List.setIfInBounds_toArray, List.set_cons_zero, List.set_cons_succ]
          refine wpAnyT_last (i := 9) (o := { dst := some 49, op := Go.Op.nilCheck (Go.Operand.tmp 40), type := 0, pos := "respeak.go:167", after := #[{ on := 0, ground := Go.Ground.data }, { on := 0, ground := Go.Ground.phase }, { on := 1, ground := Go.Ground.phase }, { on := 2, ground := Go.Ground.phase }, { on := 3, ground := Go.Ground.phase }, { on := 4, ground := Go.Ground.phase }, { on := 5, ground := Go.Ground.phase }, { on := 6, ground := Go.Ground.phase }, { on := 7, ground := Go.Ground.phase }, { on := 8, ground := Go.Ground.phase }], guard := none }) (by kernel_rfl) rfl (by decide) (fun K hK => ?_)
          go_simp
          refine hK.out _ _ ?_
          clear hK K
          try simp only [Act.put, List.setIfInBounds_toArray, List.set_cons_zero, List.set_cons_succ]
          refine wpAnyT_last (i := 10) (o := { dst := some 50, op := Go.Op.fieldAddr 88 (Go.Operand.tmp 49) 4, type := 0, pos := "respeak.go:167", after := #[{ on := 9, ground := Go.Ground.data }, { on := 0, ground := Go.Ground.phase }, { on := 1, ground := Go.Ground.phase }, { on := 2, ground := Go.Ground.phase }, { on := 3, ground := Go.Ground.phase }, { on := 4, ground := Go.Ground.phase }, { on := 5, ground := Go.Ground.phase }, { on := 6, ground := Go.Ground.phase }, { on := 7, ground := Go.Ground.phase }, { on := 8, ground := Go.Ground.phase }], guard := none }) (by kernel_rfl) rfl (by decide) (fun K hK => ?_)
          go_simp
          refine hK.out _ _ ?_
          clear hK K
          try simp only [Act.put, List.setIfInBounds_toArray, List.set_cons_zero, List.set_cons_succ]
          refine wpAnyT_last (i := 11) (o := { dst := none, op := Go.Op.store 42 (Go.Operand.tmp 50) (Go.Operand.tmp 48), type := 0, pos := "respeak.go:167", after := #[{ on := 10, ground := Go.Ground.data }, { on := 8, ground := Go.Ground.data }, { on := 8, ground := Go.Ground.chain }, { on := 0, ground := Go.Ground.phase }, { on := 1, ground := Go.Ground.phase }, { on := 2, ground := Go.Ground.phase }, { on := 3, ground := Go.Ground.phase }, { on := 4, ground := Go.Ground.phase }, { on := 5, ground := Go.Ground.phase }, { on := 6, ground := Go.Ground.phase }, { on := 7, ground := Go.Ground.phase }, { on := 8, ground := Go.Ground.phase }], guard := none }) (by kernel_rfl) rfl (by decide) (fun K hK => ?_)
          go_simp
          refine hK.out _ _ ?_
          clear hK K
          try simp only [Act.put, List.setIfInBounds_toArray, List.set_cons_zero, List.set_cons_succ]
          refine wpAnyT_done (by kernel_rfl) ?_ _
          go_wp2_with fail
          go_meet
          have hl : (S.tkn ++ [X.1]).length = S.tkn.length + 1 := by simp
          have q := HT3.out.app (l := S.tkn ++ [X.1]) HH.out.1 HH.out.2.1 HH.out.2.2.1 HH.out.2.2.2.1 HH.out.2.2.2.2 hgrow (by simpa using hat) hltg (by rw [hl]; simpa [wcells, strV_ba] using hown1)
          rw [hl] at q
          exact q
        case rest =>
          clear h1 h2 h3 h5 h6 hR hXB c4 hf hlt x0 xlt HT3
          have HT4 := Lib.hid hcut
          obtain ⟨⟨vo, vt, h1, h2, h3, h4, h5, h6⟩, hR, hXB, _, hWi, hOb⟩ := hcut
          dsimp only at h1 h2 h3
          clear hWi hOb h4 h5 h6 h2 hR hXB
          generalize wc = W4 at *
          go_upto_region 10 with fail
          go_cut [] (fun wx => TkAt w O b B X wx { S with opn := S.opn.drop 1, free := S.free - 1, tkn := last8 (S.tkn ++ [X.1]) })
          case first =>
            have ht8 := HS8.out.2.2
            have hl1 : 1 ≤ (S.tkn ++ [X.1]).length := by rw [List.length_append]; show 1 ≤ _ + 1; omega
            have hl9 : (S.tkn ++ [X.1]).length ≤ 9 := by rw [List.length_append]; show _ + 1 ≤ 9; omega
            generalize S.tkn ++ [X.1] = T1 at *
            have HL : Hid (last8 T1 = T1.drop (T1.length - 8)) := Lib.hid rfl
            obtain ⟨g9, c9, rfl, _, hg9⟩ := h3.form hl1
            have hR9 := RowR.of_own h3
            have hcap9 := own_capR h3
            obtain ⟨c0, c1, c2, c3, c4, c5, hf, hlt⟩ := blk_facts h1
            have hf4' := hf 4
            clear h3 h1 c0 c1 c2 c3 c5 hf
            have hc9 : ¬ c9 = 0 := by omega
            by_cases h89 : T1.length ≤ 8
            · have hz : max ((T1.length : Int) - 8) 0 = 0 := by omega
              have hx0 : T1.length - 8 = 0 := by omega
              rw [hx0, List.drop_zero] at HL
              clear hx0
              have hw8 : IntKind.i64.wrap ((T1.length : Int) - 8) = (T1.length : Int) - 8 := IntWalk.i64_in _ (by omega)
              refine wp_region_tail 14 (S := (fun w' => w'.cell? ⟨b, 4, none⟩ = some (.slice (some ⟨g9, 0, none⟩) T1.length c9) ∧ w'.frozen? ⟨b, 4, none⟩ = false)) (by kernel_rfl) ⟨c4, hf4'⟩ (fun hHeld => ?_)
              simp only [List.size_toArray, List.length_cons, List.length_nil, Nat.zero_add, Nat.reduceAdd]
              refine wpAnyT_take (i := 0) (oi := { dst := some 51, op := Go.Op.move (Go.Operand.tmp 0), type := 48, pos := "respeak.go:168", after := #[], guard := none }) (v := ?_) rfl (by kernel_rfl) (by kernel_rfl) (by kernel_rfl) (by kernel_rfl) (fun _ _ _ h => h) (Or.inl ⟨by rfl, ?_⟩) (by assumption) ?_
              rotate_left
              · intro w hSw
                (try dsimp only at hSw)
                go_simp
                all_goals (with_reducible rfl)
              try simp only [Act.put, List.setIfInBounds_toArray, List.set_cons_zero, List.set_cons_succ]
              refine wpAnyT_take (i := 1) (oi := { dst := some 52, op := Go.Op.move (Go.Operand.tmp 0), type := 48, pos := "respeak.go:168", after := #[], guard := none }) (v := ?_) rfl (by kernel_rfl) (by kernel_rfl) (by kernel_rfl) (by kernel_rfl) (fun _ _ _ h => h) (Or.inl ⟨by rfl, ?_⟩) (by assumption) ?_
              rotate_left
              · intro w hSw
                (try dsimp only at hSw)
                go_simp
                all_goals (with_reducible rfl)
              try simp only [Act.put, List.setIfInBounds_toArray, List.set_cons_zero, List.set_cons_succ]
              refine wpAnyT_take (i := 2) (oi := { dst := some 53, op := Go.Op.nilCheck (Go.Operand.tmp 52), type := 0, pos := "respeak.go:168", after := #[{ on := 1, ground := Go.Ground.data }], guard := none }) (v := ?_) rfl (by kernel_rfl) (by kernel_rfl) (by kernel_rfl) (by kernel_rfl) (fun _ _ _ h => h) (Or.inl ⟨by rfl, ?_⟩) (by assumption) ?_
              rotate_left
              · intro w hSw
                (try dsimp only at hSw)
                go_simp
                all_goals (with_reducible rfl)
              try simp only [Act.put, List.setIfInBounds_toArray, List.set_cons_zero, List.set_cons_succ]
              refine wpAnyT_take (i := 3) (oi := { dst := some 54, op := Go.Op.fieldAddr 88 (Go.Operand.tmp 53) 4, type := 0, pos := "respeak.go:168", after := #[{ on := 2, ground := Go.Ground.data }], guard := none }) (v := ?_) rfl (by kernel_rfl) (by kernel_rfl) (by kernel_rfl) (by kernel_rfl) (fun _ _ _ h => h) (Or.inl ⟨by rfl, ?_⟩) (by assumption) ?_
              rotate_left
              · intro w hSw
                (try dsimp only at hSw)
                go_simp
                all_goals (with_reducible rfl)
              try simp only [Act.put, List.setIfInBounds_toArray, List.set_cons_zero, List.set_cons_succ]
              refine wpAnyT_take (i := 4) (oi := { dst := some 55, op := Go.Op.load 42 (Go.Operand.tmp 54), type := 42, pos := "respeak.go:168", after := #[{ on := 3, ground := Go.Ground.data }], guard := none }) (v := ?_) rfl (by kernel_rfl) (by kernel_rfl) (by kernel_rfl) (by kernel_rfl) (fun _ _ _ h => h) (Or.inl ⟨by rfl, ?_⟩) (by assumption) ?_
              rotate_left
              · intro w hSw
                (try dsimp only at hSw)
                go_simp
                all_goals (with_reducible rfl)
              try simp only [Act.put, List.setIfInBounds_toArray, List.set_cons_zero, List.set_cons_succ]
              refine wpAnyT_take (i := 5) (oi := { dst := some 56, op := Go.Op.move (Go.Operand.tmp 0), type := 48, pos := "respeak.go:168", after := #[], guard := none }) (v := ?_) rfl (by kernel_rfl) (by kernel_rfl) (by kernel_rfl) (by kernel_rfl) (fun _ _ _ h => h) (Or.inl ⟨by rfl, ?_⟩) (by assumption) ?_
              rotate_left
              · intro w hSw
                (try dsimp only at hSw)
                go_simp
                all_goals (with_reducible rfl)
              try simp only [Act.put, List.setIfInBounds_toArray, List.set_cons_zero, List.set_cons_succ]
              refine wpAnyT_take (i := 6) (oi := { dst := some 57, op := Go.Op.nilCheck (Go.Operand.tmp 56), type := 0, pos := "respeak.go:168", after := #[{ on := 5, ground := Go.Ground.data }], guard := none }) (v := ?_) rfl (by kernel_rfl) (by kernel_rfl) (by kernel_rfl) (by kernel_rfl) (fun _ _ _ h => h) (Or.inl ⟨by rfl, ?_⟩) (by assumption) ?_
              rotate_left
              · intro w hSw
                (try dsimp only at hSw)
                go_simp
                all_goals (with_reducible rfl)
              try simp only [Act.put, List.setIfInBounds_toArray, List.set_cons_zero, List.set_cons_succ]
              refine wpAnyT_take (i := 7) (oi := { dst := some 58, op := Go.Op.fieldAddr 88 (Go.Operand.tmp 57) 4, type := 0, pos := "respeak.go:168", after := #[{ on := 6, ground := Go.Ground.data }], guard := none }) (v := ?_) rfl (by kernel_rfl) (by kernel_rfl) (by kernel_rfl) (by kernel_rfl) (fun _ _ _ h => h) (Or.inl ⟨by rfl, ?_⟩) (by assumption) ?_
              rotate_left
              · intro w hSw
                (try dsimp only at hSw)
                go_simp
                all_goals (with_reducible rfl)
              try simp only [Act.put, List.setIfInBounds_toArray, List.set_cons_zero, List.set_cons_succ]
              refine wpAnyT_take (i := 8) (oi := { dst := some 59, op := Go.Op.load 42 (Go.Operand.tmp 58), type := 42, pos := "respeak.go:168", after := #[{ on := 7, ground := Go.Ground.data }], guard := none }) (v := ?_) rfl (by kernel_rfl) (by kernel_rfl) (by kernel_rfl) (by kernel_rfl) (fun _ _ _ h => h) (Or.inl ⟨by rfl, ?_⟩) (by assumption) ?_
              rotate_left
              · intro w hSw
                (try dsimp only at hSw)
                go_simp
                all_goals (with_reducible rfl)
              try simp only [Act.put, List.setIfInBounds_toArray, List.set_cons_zero, List.set_cons_succ]
              refine wpAnyT_take (i := 9) (oi := { dst := some 60, op := Go.Op.call { callee := Go.Callee.builtin Go.Builtin.len, args := #[Go.Operand.tmp 59], argTypes := #[42] }, type := 3, pos := "respeak.go:168", after := #[{ on := 8, ground := Go.Ground.data }], guard := none }) (v := ?_) rfl (by kernel_rfl) (by kernel_rfl) (by kernel_rfl) (by kernel_rfl) (fun _ _ _ h => h) (Or.inl ⟨by rfl, ?_⟩) (by assumption) ?_
              rotate_left
              · intro w hSw
                (try dsimp only at hSw)
                go_simp
                all_goals (with_reducible rfl)
              try simp only [Act.put, List.setIfInBounds_toArray, List.set_cons_zero, List.set_cons_succ]
              refine wpAnyT_take (i := 10) (oi := { dst := some 61, op := Go.Op.binOp Go.BinOp.sub 3 (Go.Operand.tmp 60) (Go.Operand.const (Go.Value.int Go.IntKind.i64 8)) 3, type := 3, pos := "respeak.go:168", after := #[{ on := 9, ground := Go.Ground.data }], guard := none }) (v := ?_) rfl (by kernel_rfl) (by kernel_rfl) (by kernel_rfl) (by kernel_rfl) (fun _ _ _ h => h) (Or.inl ⟨by rfl, ?_⟩) (by assumption) ?_
              rotate_left
              · intro w hSw
                (try dsimp only at hSw)
                go_simp
                all_goals (with_reducible rfl)
              try simp only [Act.put, List.setIfInBounds_toArray, List.set_cons_zero, List.set_cons_succ]
              refine wpAnyT_take (i := 11) (oi := { dst := some 62, op := Go.Op.call { callee := Go.Callee.builtin Go.Builtin.max, args := #[Go.Operand.tmp 61, Go.Operand.const (Go.Value.int Go.IntKind.i64 0)], argTypes := #[3, 3] }, type := 3, pos := "respeak.go:168", after := #[{ on := 10, ground := Go.Ground.data }], guard := none }) (v := ?_) rfl (by kernel_rfl) (by kernel_rfl) (by kernel_rfl) (by kernel_rfl) (fun _ _ _ h => h) (Or.inl ⟨by rfl, ?_⟩) (by assumption) ?_
              rotate_left
              · intro w hSw
                (try dsimp only at hSw)
                go_simp
                all_goals (with_reducible rfl)
              try simp only [Act.put, List.setIfInBounds_toArray, List.set_cons_zero, List.set_cons_succ]
              refine wpAnyT_take (i := 12) (oi := { dst := some 63, op := Go.Op.slice 42 (Go.Operand.tmp 55) (some (Go.Operand.tmp 62)) none none, type := 42, pos := "respeak.go:168", after := #[{ on := 4, ground := Go.Ground.data }, { on := 11, ground := Go.Ground.data }], guard := none }) (v := ?_) rfl (by kernel_rfl) (by kernel_rfl) (by kernel_rfl) (by kernel_rfl) (fun _ _ _ h => h) (Or.inl ⟨by rfl, ?_⟩) (by assumption) ?_
              rotate_left
              · intro w hSw
                (try dsimp only at hSw)
                go_simp
                all_goals (with_reducible rfl)
              try simp only [Act.put, List.setIfInBounds_toArray, List.set_cons_zero, List.set_cons_succ]
              refine wpAnyT_one (i := 13) (o := { dst := some 64, op := Go.Op.call { callee := Go.Callee.value (Go.Operand.func 77), args := #[Go.Operand.tmp 63], argTypes := #[42] }, type := 42, pos := "respeak.go:168", after := #[{ on := 12, ground := Go.Ground.data }], guard := none }) (by kernel_rfl) rfl (fun K hK => ?_)
              go_simp
              go_at_call 77
              refine (clone9 W4.drew _ _ _ hR9 (one_wcells _) (by omega)).mono ?_
              rintro e w5 ⟨v5, rfl, ho5, hb5⟩
              obtain ⟨a5, c5', rfl⟩ := own_len ho5
              go_wp2_with fail
              refine hK.out _ _ ⟨(hb5.cell (p := ⟨b, 4, none⟩) hlt).trans c4, (hb5.frozen (p := ⟨b, 4, none⟩) hlt).trans hf4'⟩ (fun hHeld => ?_)
              clear hK K
              try simp only [Act.put, List.setIfInBounds_toArray, List.set_cons_zero, List.set_cons_succ]
              refine wpAnyT_last (i := 14) (o := { dst := some 65, op := Go.Op.nilCheck (Go.Operand.tmp 51), type := 0, pos := "respeak.go:168", after := #[{ on := 0, ground := Go.Ground.data }, { on := 0, ground := Go.Ground.phase }, { on := 1, ground := Go.Ground.phase }, { on := 2, ground := Go.Ground.phase }, { on := 3, ground := Go.Ground.phase }, { on := 4, ground := Go.Ground.phase }, { on := 5, ground := Go.Ground.phase }, { on := 6, ground := Go.Ground.phase }, { on := 7, ground := Go.Ground.phase }, { on := 8, ground := Go.Ground.phase }, { on := 9, ground := Go.Ground.phase }, { on := 10, ground := Go.Ground.phase }, { on := 11, ground := Go.Ground.phase }, { on := 12, ground := Go.Ground.phase }, { on := 13, ground := Go.Ground.phase }], guard := none }) (by kernel_rfl) rfl (by decide) (fun K hK => ?_)
              go_simp
              refine hK.out _ _ ?_
              clear hK K
              try simp only [Act.put, List.setIfInBounds_toArray, List.set_cons_zero, List.set_cons_succ]
              refine wpAnyT_last (i := 15) (o := { dst := some 66, op := Go.Op.fieldAddr 88 (Go.Operand.tmp 65) 4, type := 0, pos := "respeak.go:168", after := #[{ on := 14, ground := Go.Ground.data }, { on := 0, ground := Go.Ground.phase }, { on := 1, ground := Go.Ground.phase }, { on := 2, ground := Go.Ground.phase }, { on := 3, ground := Go.Ground.phase }, { on := 4, ground := Go.Ground.phase }, { on := 5, ground := Go.Ground.phase }, { on := 6, ground := Go.Ground.phase }, { on := 7, ground := Go.Ground.phase }, { on := 8, ground := Go.Ground.phase }, { on := 9, ground := Go.Ground.phase }, { on := 10, ground := Go.Ground.phase }, { on := 11, ground := Go.Ground.phase }, { on := 12, ground := Go.Ground.phase }, { on := 13, ground := Go.Ground.phase }], guard := none }) (by kernel_rfl) rfl (by decide) (fun K hK => ?_)
              go_simp
              refine hK.out _ _ ?_
              clear hK K
              try simp only [Act.put, List.setIfInBounds_toArray, List.set_cons_zero, List.set_cons_succ]
              refine wpAnyT_last (i := 16) (o := { dst := none, op := Go.Op.store 42 (Go.Operand.tmp 66) (Go.Operand.tmp 64), type := 0, pos := "respeak.go:168", after := #[{ on := 15, ground := Go.Ground.data }, { on := 13, ground := Go.Ground.data }, { on := 13, ground := Go.Ground.chain }, { on := 0, ground := Go.Ground.phase }, { on := 1, ground := Go.Ground.phase }, { on := 2, ground := Go.Ground.phase }, { on := 3, ground := Go.Ground.phase }, { on := 4, ground := Go.Ground.phase }, { on := 5, ground := Go.Ground.phase }, { on := 6, ground := Go.Ground.phase }, { on := 7, ground := Go.Ground.phase }, { on := 8, ground := Go.Ground.phase }, { on := 9, ground := Go.Ground.phase }, { on := 10, ground := Go.Ground.phase }, { on := 11, ground := Go.Ground.phase }, { on := 12, ground := Go.Ground.phase }, { on := 13, ground := Go.Ground.phase }], guard := none }) (by kernel_rfl) rfl (by decide) (fun K hK => ?_)
              go_simp
              refine hK.out _ _ ?_
              clear hK K
              try simp only [Act.put, List.setIfInBounds_toArray, List.set_cons_zero, List.set_cons_succ]
              refine wpAnyT_done (by kernel_rfl) ?_ _
              go_wp2_with fail
              go_meet
              rw [HL.out]
              exact HT4.out.clone (l := T1) ⟨hb5.os, hb5.tape, hb5.output, hb5.size, hb5.block⟩ ho5
            · obtain hn9 : T1.length = 9 := by omega
              have hR9' := RowR.from hR9 (k := 1) (by omega)
              rw [hn9] at hR9' c4
              have HN9 : Hid ((T1.drop 1).length = 9 - 1) := Lib.hid (by rw [List.length_drop, hn9])
              have HL' : Hid (last8 T1 = T1.drop 1) := Lib.hid (by rw [HL.out, hn9])
              have hc91 : ¬ c9 = 1 := by omega
              clear HL hl1 hl9 h89 hR9 hn9 hcap9
              have hw8 : IntKind.i64.wrap 1 = 1 := by decide
              have hm1 : max (1 : Int) 0 = 1 := by decide
              refine wp_region_tail 14 (S := (fun w' => w'.cell? ⟨b, 4, none⟩ = some (.slice (some ⟨g9, 0, none⟩) 9 c9) ∧ w'.frozen? ⟨b, 4, none⟩ = false)) (by kernel_rfl) ⟨c4, hf4'⟩ (fun hHeld => ?_)
              simp only [List.size_toArray, List.length_cons, List.length_nil, Nat.zero_add, Nat.reduceAdd]
              refine wpAnyT_take (i := 0) (oi := { dst := some 51, op := Go.Op.move (Go.Operand.tmp 0), type := 48, pos := "respeak.go:168", after := #[], guard := none }) (v := ?_) rfl (by kernel_rfl) (by kernel_rfl) (by kernel_rfl) (by kernel_rfl) (fun _ _ _ h => h) (Or.inl ⟨by rfl, ?_⟩) (by assumption) ?_
              rotate_left
              · intro w hSw
                (try dsimp only at hSw)
                go_simp
                all_goals (with_reducible rfl)
              try simp only [Act.put, List.setIfInBounds_toArray, List.set_cons_zero, List.set_cons_succ]
              refine wpAnyT_take (i := 1) (oi := { dst := some 52, op := Go.Op.move (Go.Operand.tmp 0), type := 48, pos := "respeak.go:168", after := #[], guard := none }) (v := ?_) rfl (by kernel_rfl) (by kernel_rfl) (by kernel_rfl) (by kernel_rfl) (fun _ _ _ h => h) (Or.inl ⟨by rfl, ?_⟩) (by assumption) ?_
              rotate_left
              · intro w hSw
                (try dsimp only at hSw)
                go_simp
                all_goals (with_reducible rfl)
              try simp only [Act.put, List.setIfInBounds_toArray, List.set_cons_zero, List.set_cons_succ]
              refine wpAnyT_take (i := 2) (oi := { dst := some 53, op := Go.Op.nilCheck (Go.Operand.tmp 52), type := 0, pos := "respeak.go:168", after := #[{ on := 1, ground := Go.Ground.data }], guard := none }) (v := ?_) rfl (by kernel_rfl) (by kernel_rfl) (by kernel_rfl) (by kernel_rfl) (fun _ _ _ h => h) (Or.inl ⟨by rfl, ?_⟩) (by assumption) ?_
              rotate_left
              · intro w hSw
                (try dsimp only at hSw)
                go_simp
                all_goals (with_reducible rfl)
              try simp only [Act.put, List.setIfInBounds_toArray, List.set_cons_zero, List.set_cons_succ]
              refine wpAnyT_take (i := 3) (oi := { dst := some 54, op := Go.Op.fieldAddr 88 (Go.Operand.tmp 53) 4, type := 0, pos := "respeak.go:168", after := #[{ on := 2, ground := Go.Ground.data }], guard := none }) (v := ?_) rfl (by kernel_rfl) (by kernel_rfl) (by kernel_rfl) (by kernel_rfl) (fun _ _ _ h => h) (Or.inl ⟨by rfl, ?_⟩) (by assumption) ?_
              rotate_left
              · intro w hSw
                (try dsimp only at hSw)
                go_simp
                all_goals (with_reducible rfl)
              try simp only [Act.put, List.setIfInBounds_toArray, List.set_cons_zero, List.set_cons_succ]
              refine wpAnyT_take (i := 4) (oi := { dst := some 55, op := Go.Op.load 42 (Go.Operand.tmp 54), type := 42, pos := "respeak.go:168", after := #[{ on := 3, ground := Go.Ground.data }], guard := none }) (v := ?_) rfl (by kernel_rfl) (by kernel_rfl) (by kernel_rfl) (by kernel_rfl) (fun _ _ _ h => h) (Or.inl ⟨by rfl, ?_⟩) (by assumption) ?_
              rotate_left
              · intro w hSw
                (try dsimp only at hSw)
                go_simp
                all_goals (with_reducible rfl)
              try simp only [Act.put, List.setIfInBounds_toArray, List.set_cons_zero, List.set_cons_succ]
              refine wpAnyT_take (i := 5) (oi := { dst := some 56, op := Go.Op.move (Go.Operand.tmp 0), type := 48, pos := "respeak.go:168", after := #[], guard := none }) (v := ?_) rfl (by kernel_rfl) (by kernel_rfl) (by kernel_rfl) (by kernel_rfl) (fun _ _ _ h => h) (Or.inl ⟨by rfl, ?_⟩) (by assumption) ?_
              rotate_left
              · intro w hSw
                (try dsimp only at hSw)
                go_simp
                all_goals (with_reducible rfl)
              try simp only [Act.put, List.setIfInBounds_toArray, List.set_cons_zero, List.set_cons_succ]
              refine wpAnyT_take (i := 6) (oi := { dst := some 57, op := Go.Op.nilCheck (Go.Operand.tmp 56), type := 0, pos := "respeak.go:168", after := #[{ on := 5, ground := Go.Ground.data }], guard := none }) (v := ?_) rfl (by kernel_rfl) (by kernel_rfl) (by kernel_rfl) (by kernel_rfl) (fun _ _ _ h => h) (Or.inl ⟨by rfl, ?_⟩) (by assumption) ?_
              rotate_left
              · intro w hSw
                (try dsimp only at hSw)
                go_simp
                all_goals (with_reducible rfl)
              try simp only [Act.put, List.setIfInBounds_toArray, List.set_cons_zero, List.set_cons_succ]
              refine wpAnyT_take (i := 7) (oi := { dst := some 58, op := Go.Op.fieldAddr 88 (Go.Operand.tmp 57) 4, type := 0, pos := "respeak.go:168", after := #[{ on := 6, ground := Go.Ground.data }], guard := none }) (v := ?_) rfl (by kernel_rfl) (by kernel_rfl) (by kernel_rfl) (by kernel_rfl) (fun _ _ _ h => h) (Or.inl ⟨by rfl, ?_⟩) (by assumption) ?_
              rotate_left
              · intro w hSw
                (try dsimp only at hSw)
                go_simp
                all_goals (with_reducible rfl)
              try simp only [Act.put, List.setIfInBounds_toArray, List.set_cons_zero, List.set_cons_succ]
              refine wpAnyT_take (i := 8) (oi := { dst := some 59, op := Go.Op.load 42 (Go.Operand.tmp 58), type := 42, pos := "respeak.go:168", after := #[{ on := 7, ground := Go.Ground.data }], guard := none }) (v := ?_) rfl (by kernel_rfl) (by kernel_rfl) (by kernel_rfl) (by kernel_rfl) (fun _ _ _ h => h) (Or.inl ⟨by rfl, ?_⟩) (by assumption) ?_
              rotate_left
              · intro w hSw
                (try dsimp only at hSw)
                go_simp
                all_goals (with_reducible rfl)
              try simp only [Act.put, List.setIfInBounds_toArray, List.set_cons_zero, List.set_cons_succ]
              refine wpAnyT_take (i := 9) (oi := { dst := some 60, op := Go.Op.call { callee := Go.Callee.builtin Go.Builtin.len, args := #[Go.Operand.tmp 59], argTypes := #[42] }, type := 3, pos := "respeak.go:168", after := #[{ on := 8, ground := Go.Ground.data }], guard := none }) (v := ?_) rfl (by kernel_rfl) (by kernel_rfl) (by kernel_rfl) (by kernel_rfl) (fun _ _ _ h => h) (Or.inl ⟨by rfl, ?_⟩) (by assumption) ?_
              rotate_left
              · intro w hSw
                (try dsimp only at hSw)
                go_simp
                all_goals (with_reducible rfl)
              try simp only [Act.put, List.setIfInBounds_toArray, List.set_cons_zero, List.set_cons_succ]
              refine wpAnyT_take (i := 10) (oi := { dst := some 61, op := Go.Op.binOp Go.BinOp.sub 3 (Go.Operand.tmp 60) (Go.Operand.const (Go.Value.int Go.IntKind.i64 8)) 3, type := 3, pos := "respeak.go:168", after := #[{ on := 9, ground := Go.Ground.data }], guard := none }) (v := ?_) rfl (by kernel_rfl) (by kernel_rfl) (by kernel_rfl) (by kernel_rfl) (fun _ _ _ h => h) (Or.inl ⟨by rfl, ?_⟩) (by assumption) ?_
              rotate_left
              · intro w hSw
                (try dsimp only at hSw)
                go_simp
                all_goals (with_reducible rfl)
              try simp only [Act.put, List.setIfInBounds_toArray, List.set_cons_zero, List.set_cons_succ]
              refine wpAnyT_take (i := 11) (oi := { dst := some 62, op := Go.Op.call { callee := Go.Callee.builtin Go.Builtin.max, args := #[Go.Operand.tmp 61, Go.Operand.const (Go.Value.int Go.IntKind.i64 0)], argTypes := #[3, 3] }, type := 3, pos := "respeak.go:168", after := #[{ on := 10, ground := Go.Ground.data }], guard := none }) (v := ?_) rfl (by kernel_rfl) (by kernel_rfl) (by kernel_rfl) (by kernel_rfl) (fun _ _ _ h => h) (Or.inl ⟨by rfl, ?_⟩) (by assumption) ?_
              rotate_left
              · intro w hSw
                (try dsimp only at hSw)
                go_simp
                all_goals (with_reducible rfl)
              try simp only [Act.put, List.setIfInBounds_toArray, List.set_cons_zero, List.set_cons_succ]
              refine wpAnyT_take (i := 12) (oi := { dst := some 63, op := Go.Op.slice 42 (Go.Operand.tmp 55) (some (Go.Operand.tmp 62)) none none, type := 42, pos := "respeak.go:168", after := #[{ on := 4, ground := Go.Ground.data }, { on := 11, ground := Go.Ground.data }], guard := none }) (v := ?_) rfl (by kernel_rfl) (by kernel_rfl) (by kernel_rfl) (by kernel_rfl) (fun _ _ _ h => h) (Or.inl ⟨by rfl, ?_⟩) (by assumption) ?_
              rotate_left
              · intro w hSw
                (try dsimp only at hSw)
                go_simp
                all_goals (with_reducible rfl)
              try simp only [Act.put, List.setIfInBounds_toArray, List.set_cons_zero, List.set_cons_succ]
              refine wpAnyT_one (i := 13) (o := { dst := some 64, op := Go.Op.call { callee := Go.Callee.value (Go.Operand.func 77), args := #[Go.Operand.tmp 63], argTypes := #[42] }, type := 42, pos := "respeak.go:168", after := #[{ on := 12, ground := Go.Ground.data }], guard := none }) (by kernel_rfl) rfl (fun K hK => ?_)
              go_simp
              go_at_call 77
              refine (clone9 W4.drew _ _ _ hR9' (one_wcells _) (by omega)).mono ?_
              rintro e w5 ⟨v5, rfl, ho5, hb5⟩
              obtain ⟨a5, c5', rfl⟩ := own_len ho5
              go_wp2_with fail
              refine hK.out _ _ ⟨(hb5.cell (p := ⟨b, 4, none⟩) hlt).trans c4, (hb5.frozen (p := ⟨b, 4, none⟩) hlt).trans hf4'⟩ (fun hHeld => ?_)
              clear hK K
              try simp only [Act.put, List.setIfInBounds_toArray, List.set_cons_zero, List.set_cons_succ]
              refine wpAnyT_last (i := 14) (o := { dst := some 65, op := Go.Op.nilCheck (Go.Operand.tmp 51), type := 0, pos := "respeak.go:168", after := #[{ on := 0, ground := Go.Ground.data }, { on := 0, ground := Go.Ground.phase }, { on := 1, ground := Go.Ground.phase }, { on := 2, ground := Go.Ground.phase }, { on := 3, ground := Go.Ground.phase }, { on := 4, ground := Go.Ground.phase }, { on := 5, ground := Go.Ground.phase }, { on := 6, ground := Go.Ground.phase }, { on := 7, ground := Go.Ground.phase }, { on := 8, ground := Go.Ground.phase }, { on := 9, ground := Go.Ground.phase }, { on := 10, ground := Go.Ground.phase }, { on := 11, ground := Go.Ground.phase }, { on := 12, ground := Go.Ground.phase }, { on := 13, ground := Go.Ground.phase }], guard := none }) (by kernel_rfl) rfl (by decide) (fun K hK => ?_)
              go_simp
              refine hK.out _ _ ?_
              clear hK K
              try simp only [Act.put, List.setIfInBounds_toArray, List.set_cons_zero, List.set_cons_succ]
              refine wpAnyT_last (i := 15) (o := { dst := some 66, op := Go.Op.fieldAddr 88 (Go.Operand.tmp 65) 4, type := 0, pos := "respeak.go:168", after := #[{ on := 14, ground := Go.Ground.data }, { on := 0, ground := Go.Ground.phase }, { on := 1, ground := Go.Ground.phase }, { on := 2, ground := Go.Ground.phase }, { on := 3, ground := Go.Ground.phase }, { on := 4, ground := Go.Ground.phase }, { on := 5, ground := Go.Ground.phase }, { on := 6, ground := Go.Ground.phase }, { on := 7, ground := Go.Ground.phase }, { on := 8, ground := Go.Ground.phase }, { on := 9, ground := Go.Ground.phase }, { on := 10, ground := Go.Ground.phase }, { on := 11, ground := Go.Ground.phase }, { on := 12, ground := Go.Ground.phase }, { on := 13, ground := Go.Ground.phase }], guard := none }) (by kernel_rfl) rfl (by decide) (fun K hK => ?_)
              go_simp
              refine hK.out _ _ ?_
              clear hK K
              try simp only [Act.put, List.setIfInBounds_toArray, List.set_cons_zero, List.set_cons_succ]
              refine wpAnyT_last (i := 16) (o := { dst := none, op := Go.Op.store 42 (Go.Operand.tmp 66) (Go.Operand.tmp 64), type := 0, pos := "respeak.go:168", after := #[{ on := 15, ground := Go.Ground.data }, { on := 13, ground := Go.Ground.data }, { on := 13, ground := Go.Ground.chain }, { on := 0, ground := Go.Ground.phase }, { on := 1, ground := Go.Ground.phase }, { on := 2, ground := Go.Ground.phase }, { on := 3, ground := Go.Ground.phase }, { on := 4, ground := Go.Ground.phase }, { on := 5, ground := Go.Ground.phase }, { on := 6, ground := Go.Ground.phase }, { on := 7, ground := Go.Ground.phase }, { on := 8, ground := Go.Ground.phase }, { on := 9, ground := Go.Ground.phase }, { on := 10, ground := Go.Ground.phase }, { on := 11, ground := Go.Ground.phase }, { on := 12, ground := Go.Ground.phase }, { on := 13, ground := Go.Ground.phase }], guard := none }) (by kernel_rfl) rfl (by decide) (fun K hK => ?_)
              go_simp
              refine hK.out _ _ ?_
              clear hK K
              try simp only [Act.put, List.setIfInBounds_toArray, List.set_cons_zero, List.set_cons_succ]
              refine wpAnyT_done (by kernel_rfl) ?_ _
              go_wp2_with fail
              go_meet
              rw [HL'.out]
              exact HT4.out.clone (l := T1.drop 1) ⟨hb5.os, hb5.tape, hb5.output, hb5.size, hb5.block⟩ (by rw [HN9.out]; exact ho5)
          case rest =>
            clear h1 h3 HT4
            have Hq := Lib.hid (hcut.fin (x := .string (ba X.1)) (y := .bool X.2.1) (z := .bool X.2.2))
            obtain ⟨_, hR, hXB, _, _, _⟩ := hcut
            obtain ⟨r0, r1, r2, rf, rlt⟩ := blk3 hR
            obtain ⟨x0, x1, x2, xf, xlt⟩ := blk3 hXB
            clear hR hXB
            go_wp2_with fail
            refine post_as (fun W6 => SpAt W6 (grow O w W6) b S.take ∧ W6.heap[w.heap.size]? = some (.cells #[.string (ba X.1), .bool X.2.1, .bool X.2.2] 59 (0, 0)) ∧ Within O w W6) (by rw [E1.out.1, HN.out, ← HM2.out]; exact Hq.out) (fun W6 ⟨q1, q2, q3⟩ => ?_)
            obtain ⟨s0, s1, s2, _, _⟩ := blk3 q2
            refine bodyPost_ret (v := .tuple #[spkV X, .bool true]) (by simp [results, Tryd.results41, go_sem, s0, s1, s2]; rfl) rfl ?_
            rw [hX.out, HC.out]
            exact ⟨rfl, q1, q3⟩
  · have E1 := Lib.hid (Hn.out hcan)
    have HC := Lib.hid hcan
    obtain ⟨r0, r1, r2, rf, rlt⟩ := blk3 hR
    rw [hcan]
    clear Hn Hm Hw Hl hb1 hcan
    generalize hX' : S.peek = X
    have hX := Lib.hid hX'
    clear hX'
    go_wp2_with fail
    refine post_as (fun W => Below w.heap.size w W ∧ W.heap[w.heap.size]? = some (.cells #[.string ⟨#[]⟩, .bool false, .bool false] 59 (0, 0))) ⟨(((hb.setCell (Nat.le_refl _) _).setCell (Nat.le_refl _) _).setCell (Nat.le_refl _) _).alloc (by simp; omega) _, blk_stay (set3 hR) (below1 _ (Nat.le_refl _))⟩ (fun W ⟨hbW, hRW⟩ => ?_)
    obtain ⟨s0, s1, s2, _, _⟩ := blk3 hRW
    refine bodyPost_ret (v := .tuple #[spkV default, .bool false]) (by simp [results, Tryd.results41, go_sem, s0, s1, s2]; rfl) rfl ?_
    rw [E1.out.1, E1.out.2, HC.out]
    exact ⟨rfl, (HT.out.below hbW).weaken (fun k hk => Or.inl hk), Within.of_below hbW⟩
end Go.Proofs.YtheemefggkcfbaaDoor
namespace Go.Proofs.YtheemefggkcfbaaDoor
open Go Go.Lib Go.RowKit Go.Shelf
/-! ### the reference's speaker, by value; an append whose source is a row that is read -/
section
variable {P : Program} {w : World}
theorem run_append_row (base : Nat) (t ty e : TypeId) (i : TypeInfo) (z : Value) (size bytes : Nat) (ht : P.underlying t = some (.slice e)) (hi : P.info? e = some i) (hz : i.zero = some z)
    (hsize : i.size = size) (hby : i.bytes = bytes) (hzs : z.cells.size = size) (hsz : 0 < size) (v : Value) (n : Nat) (xs : List Value) (hown : w.ownsRow base e size v n xs)
    (v2 : Value) (m : Nat) (news : List Value) (hr : RowR w size v2 m news) (h1 : ∀ u ∈ news, u.oneCell' = true) (h63 : n + m ≤ maxLen) (hbytes : (n + m) * bytes ≤ 140737488355328) (hbase : base ≤ w.heap.size) :
    ∃ v' w', (Builtin.append_ #[t, t] ty #[v, v2]).run P w = .ok v' w' ∧ w'.ownsRow base e size v' (n + m) (xs ++ news) ∧ w.grownBy w' v.ownBlock ∧ (v'.ownBlock = v.ownBlock ∨ v'.ownBlock = some w.heap.size) := by
  rcases hr.2 with ⟨rfl, rfl⟩ | ⟨g, off, cap, rfl, hg, hc, hx⟩
  · have hn : news = [] := List.length_eq_zero_iff.1 (by have := hr.1; omega)
    subst hn
    exact ⟨v, w, run_append_owned_none (P := P) (w := w) base t ty e i size ht hi v n xs hown, by simpa using hown, World.grownBy.refl w _, .inl rfl⟩
  · obtain ⟨v', w', hrun, h2, h3, _, h5⟩ := run_append_own_at (P := P) w base t ty e i z size bytes ht hi hz hsize hby hzs hsz v n xs hown ⟨g, off, none⟩ m cap news hr.1 (fun j u hu => by rw [add_addr]; exact hx j u hu) h1 h63 hbytes hbase
    exact ⟨v', w', hrun, h2, h3, h5⟩
theorem wp_append_row {o : Oper} {a : Act} {K : Act → World → Prop} {Q : Exit → Act → World → Prop} (s x : Operand) (t : TypeId) (ho : o.op = .call { callee := .builtin .append, args := #[s, x], argTypes := #[t, t] })
    (base : Nat) (e : TypeId) (i : TypeInfo) (z : Value) (size bytes : Nat) (ht : P.underlying t = some (.slice e)) (hi : P.info? e = some i) (hz : i.zero = some z)
    (hsize : i.size = size) (hby : i.bytes = bytes) (hzs : z.cells.size = size) (hsz : 0 < size) (v : Value) (n : Nat) (xs : List Value) (hs : a.eval s = v) (hown : w.ownsRow base e size v n xs)
    (v2 : Value) (m : Nat) (news : List Value) (hx : a.eval x = v2) (hr : RowR w size v2 m news) (h1 : ∀ u ∈ news, u.oneCell' = true) (h63 : n + m ≤ maxLen) (hbytes : (n + m) * bytes ≤ 140737488355328) (hbase : base ≤ w.heap.size)
    (h : ∀ v' w', w'.ownsRow base e size v' (n + m) (xs ++ news) → w.grownBy w' v.ownBlock → (v'.ownBlock = v.ownBlock ∨ v'.ownBlock = some w.heap.size) → K (a.put o.dst v') w') : o.wp P a w K Q := by
  obtain ⟨v', w', hrun, h2, h3, h4⟩ := run_append_row (P := P) base t o.type e i z size bytes ht hi hz hsize hby hzs hsz v n xs hown v2 m news hr h1 h63 hbytes hbase
  unfold Oper.wp execOp
  simp only [ho, resolve, invoke, builtin, Sem.run_bind, Sem.run_pure, Result.andThen_ok, List.map_toArray, List.map_cons, List.map_nil, hs, hx, hrun]
  exact h v' w' h2 h3 h4
theorem wpList_append_row {ops : Array Oper} {rest : List Oper} {o : Oper} {a : Act} {Q : Exit → Act → World → Prop} (hgd : o.guard = none) (s x : Operand) (t : TypeId) (ho : o.op = .call { callee := .builtin .append, args := #[s, x], argTypes := #[t, t] })
    (base : Nat) (e : TypeId) (i : TypeInfo) (z : Value) (size bytes : Nat) (ht : P.underlying t = some (.slice e)) (hi : P.info? e = some i) (hz : i.zero = some z)
    (hsize : i.size = size) (hby : i.bytes = bytes) (hzs : z.cells.size = size) (hsz : 0 < size) (v : Value) (n : Nat) (xs : List Value) (hs : a.eval s = v) (hown : w.ownsRow base e size v n xs)
    (v2 : Value) (m : Nat) (news : List Value) (hx : a.eval x = v2) (hr : RowR w size v2 m news) (h1 : ∀ u ∈ news, u.oneCell' = true) (h63 : n + m ≤ maxLen) (hbytes : (n + m) * bytes ≤ 140737488355328) (hbase : base ≤ w.heap.size)
    (h : ∀ v' w', w'.ownsRow base e size v' (n + m) (xs ++ news) → w.grownBy w' v.ownBlock → (v'.ownBlock = v.ownBlock ∨ v'.ownBlock = some w.heap.size) → wpList P ops Q rest (a.put o.dst v') w') : wpList P ops Q (o :: rest) a w :=
  wpList_plain hgd fun _ hK => wp_append_row s x t ho base e i z size bytes ht hi hz hsize hby hzs hsz v n xs hs hown v2 m news hx hr h1 h63 hbytes hbase fun v' w' h2 h3 h4 => hK _ _ (h v' w' h2 h3 h4)
theorem step_append_row {ops : Array Oper} {o : Oper} {a : Act} {K : Act → World → Prop} {Q : Exit → Act → World → Prop} {E : Prop} (hgd : o.guard = none) (s x : Operand) (t : TypeId) (ho : o.op = .call { callee := .builtin .append, args := #[s, x], argTypes := #[t, t] })
    (base : Nat) (e : TypeId) (i : TypeInfo) (z : Value) (size bytes : Nat) (ht : P.underlying t = some (.slice e)) (hi : P.info? e = some i) (hz : i.zero = some z)
    (hsize : i.size = size) (hby : i.bytes = bytes) (hzs : z.cells.size = size) (hsz : 0 < size) (v : Value) (n : Nat) (xs : List Value) (hs : a.eval s = v) (hown : w.ownsRow base e size v n xs)
    (v2 : Value) (m : Nat) (news : List Value) (hx : a.eval x = v2) (hr : RowR w size v2 m news) (h1 : ∀ u ∈ news, u.oneCell' = true) (h63 : n + m ≤ maxLen) (hbytes : (n + m) * bytes ≤ 140737488355328) (hbase : base ≤ w.heap.size)
    (h : ∀ v' w', w'.ownsRow base e size v' (n + m) (xs ++ news) → w.grownBy w' v.ownBlock → (v'.ownBlock = v.ownBlock ∨ v'.ownBlock = some w.heap.size) → K (a.put o.dst v') w') :
    if Region.wanted o (yielded ops a.tmps) = true then Oper.wp P o a w K Q else E := by
  have hw : Region.wanted o (yielded ops a.tmps) = true := by simp [Region.wanted, hgd]
  rw [if_pos hw]
  exact wp_append_row s x t ho base e i z size bytes ht hi hz hsize hby hzs hsz v n xs hs hown v2 m news hx hr h1 h63 hbytes hbase h
end
theorem RowR.alloc {w : World} {size n : Nat} {v : Value} {xs : List Value} (h : RowR w size v n xs) (o : Obj) : RowR (w.alloc o) size v n xs := h.below (below1 o (Nat.le_refl _))
theorem RowR.drewN {w : World} {size n : Nat} {v : Value} {xs : List Value} (h : RowR w size v n xs) (k : Nat) : RowR (w.drewN k) size v n xs := h
theorem RowR.drew {w : World} {size n : Nat} {v : Value} {xs : List Value} (h : RowR w size v n xs) : RowR w.drew size v n xs := h
theorem RowR.len {w : World} {size n : Nat} {v : Value} {xs : List Value} (h : RowR w size v n xs) : ∃ a c, v = .slice a n c := by
  rcases h.2 with ⟨rfl, rfl⟩ | ⟨g, off, cap, rfl, _⟩
  · exact ⟨none, 0, rfl⟩
  · exact ⟨_, _, rfl⟩
theorem RowR.cap {w : World} {size n m c : Nat} {a : Option Addr} {xs : List Value} (h : RowR w size (.slice a m c) n xs) : n ≤ c := by
  rcases h.2 with ⟨e, h0⟩ | ⟨g, off, cap, e, _, hc, _⟩
  · omega
  · injection e with _ _ e; omega
theorem RowR.lt {w : World} {size n k : Nat} {v : Value} {xs : List Value} (h : RowR w size v n xs) (hk : v.ownBlock = some k) : k < w.heap.size := by
  rcases h.2 with ⟨rfl, _⟩ | ⟨g, off, cap, rfl, hg, _⟩
  · cases hk
  · injection hk with e; subst e; exact hg
/-- A row keeps where its block stays. -/
theorem RowR.kept {w w' : World} {size n : Nat} {v : Value} {xs : List Value} (h : RowR w size v n xs) (hz : w.heap.size ≤ w'.heap.size) (hk : ∀ k, v.ownBlock = some k → w'.heap[k]? = w.heap[k]?) : RowR w' size v n xs := by
  refine ⟨h.1, ?_⟩
  rcases h.2 with h2 | ⟨g, off, cap, rfl, hg, hc, hx⟩
  · exact Or.inl h2
  · exact Or.inr ⟨g, off, cap, rfl, by omega, hc, fun j u hu => (World.cell?_of_block (a := ⟨g, off + j, none⟩) (hk g rfl)).trans (hx j u hu)⟩
theorem RowR.at3 {w : World} {n g off cap : Nat} {l : List Spk} (h : RowR w 3 (.slice (some ⟨g, off, none⟩) n cap) l.length (scells l)) (i : Nat) (hi : i < l.length) :
    w.cell? ⟨g, off + i * 3, none⟩ = some (.string (ba (l.getD i default).1)) ∧ w.cell? ⟨g, off + (i * 3 + 1), none⟩ = some (.bool (l.getD i default).2.1) ∧ w.cell? ⟨g, off + (i * 3 + 2), none⟩ = some (.bool (l.getD i default).2.2) := by
  obtain ⟨hl, h' | ⟨g', off', cap', e, hg, hc, hx⟩⟩ := h
  · cases h'.1
  · injection e with e1 _ e3
    injection e1 with e1
    injection e1 with e1 e2
    subst e1 e2
    obtain ⟨y0, y1, y2⟩ := scells_get l i hi
    exact ⟨by rw [← strV_ba]; exact hx _ _ y0, hx _ _ y1, hx _ _ y2⟩
theorem RowR.at1 {w : World} {n g off cap : Nat} {l : List (List UInt8)} (h : RowR w 1 (.slice (some ⟨g, off, none⟩) n cap) l.length (wcells l)) (i : Nat) (hi : i < l.length) : w.cell? ⟨g, off + i, none⟩ = some (.string (ba (l.getD i []))) := by
  obtain ⟨hl, h' | ⟨g', off', cap', e, hg, hc, hx⟩⟩ := h
  · cases h'.1
  · injection e with e1 _ e3
    injection e1 with e1
    injection e1 with e1 e2
    subst e1 e2
    have y : (wcells l)[i]? = some (strV (l.getD i [])) := by
      unfold wcells
      rw [List.getElem?_map, List.getElem?_eq_getElem hi, List.getD_eq_getElem?_getD, List.getElem?_eq_getElem hi]; rfl
    rw [← strV_ba]
    exact hx _ _ y
/-- A reference speaker, by value. -/
abbrev rv (h : Nat) (vo : Value) (m : Bool) (f : Nat) (vt : Value) (b : Bool) : Value := .agg #[.int .i64 h, vo, .bool m, .int .i64 f, vt, .bool b]
abbrev rc (h : Nat) (vo : Value) (m : Bool) (f : Nat) (vt : Value) (b : Bool) : Array Value := #[.int .i64 h, vo, .bool m, .int .i64 f, vt, .bool b]
/-- A reference speaker: its rows lie in blocks that K lets in. -/
def RfAt (w : World) (K : Nat → Prop) (v : Value) (S : Sp) : Prop :=
  ∃ vo vt, v = rv S.hold vo S.mark S.free vt S.brk ∧ RowR w 3 vo S.opn.length (scells S.opn) ∧ RowR w 1 vt S.tkn.length (wcells S.tkn) ∧ (∀ k, vo.ownBlock = some k → K k) ∧ (∀ k, vt.ownBlock = some k → K k)
theorem RfAt.weaken {w : World} {K K' : Nat → Prop} {v : Value} {S : Sp} (h : RfAt w K v S) (hK : ∀ k, k < w.heap.size → K k → K' k) : RfAt w K' v S := by
  obtain ⟨vo, vt, e, h1, h2, h3, h4⟩ := h
  exact ⟨vo, vt, e, h1, h2, fun k hk => hK k (h1.lt hk) (h3 k hk), fun k hk => hK k (h2.lt hk) (h4 k hk)⟩
theorem RfAt.below {w w' : World} {K : Nat → Prop} {v : Value} {S : Sp} (h : RfAt w K v S) (hb : Below w.heap.size w w') : RfAt w' K v S := by
  obtain ⟨vo, vt, e, h1, h2, h3, h4⟩ := h
  exact ⟨vo, vt, e, h1.below hb, h2.below hb, h3, h4⟩
theorem RfAt.within {w w' : World} {O : Nat → Prop} {v : Value} {S : Sp} (h : RfAt w (fun k => ¬ O k) v S) (hW : Within O w w') : RfAt w' (fun k => ¬ grow O w w' k) v S := by
  obtain ⟨vo, vt, e, h1, h2, h3, h4⟩ := h
  exact ⟨vo, vt, e, h1.kept hW.size (fun k hk => hW.block k (h1.lt hk) (h3 k hk)), h2.kept hW.size (fun k hk => hW.block k (h2.lt hk) (h4 k hk)), fun k hk hg => by
    rcases hg with hg | hg
    · exact h3 k hk hg
    · have := h1.lt hk; omega, fun k hk hg => by
    rcases hg with hg | hg
    · exact h4 k hk hg
    · have := h2.lt hk; omega⟩
/-- What is new lies above. -/
def up (K : Nat → Prop) (w : World) : Nat → Prop := fun k => K k ∨ w.heap.size ≤ k
end Go.Proofs.YtheemefggkcfbaaDoor
namespace Go.Proofs.YtheemefggkcfbaaDoor
open Go Go.Lib Go.RowKit Go.Shelf
/-! ### Fix -/
theorem RowR.take3 {w : World} {n c k : Nat} {a : Option Addr} {l : List Spk} (h : RowR w 3 (.slice a n c) n (scells l)) (hk : k ≤ n) : RowR w 3 (.slice a k c) k (scells (l.take k)) := by
  obtain ⟨hl, h' | ⟨g, off, cap, e, hg, hc, hx⟩⟩ := h
  · injection h'.1 with e1 _ e3
    subst e1 e3
    obtain rfl : k = 0 := by omega
    exact ⟨rfl, Or.inl ⟨rfl, rfl⟩⟩
  · injection e with e1 _ e3
    subst e1 e3
    rw [scells_len] at hl
    refine ⟨by rw [scells_len, List.length_take]; omega, Or.inr ⟨g, off, c, rfl, hg, by omega, fun j u hu => ?_⟩⟩
    rw [← scells_take, List.getElem?_take] at hu
    split at hu
    · exact hx j u hu
    · cases hu
theorem own_take1 {w : World} {B n c k : Nat} {a : Option Addr} {l : List (List UInt8)} (h : w.ownsRow B 9 1 (.slice a n c) n (wcells l)) (hk : k ≤ n) : w.ownsRow B 9 1 (.slice a k c) k (wcells (l.take k)) := by
  obtain ⟨hl, h' | ⟨g, cap, cur, e, hg, hh, hc, hm, hs, hx⟩⟩ := h
  · injection h'.1 with e1 _ e3
    subst e1 e3
    obtain rfl : k = 0 := by omega
    exact ⟨rfl, Or.inl ⟨rfl, rfl⟩⟩
  · injection e with e1 _ e3
    subst e1 e3
    rw [wcells_len] at hl
    refine ⟨by rw [wcells_len, List.length_take]; omega, Or.inr ⟨g, c, cur, rfl, hg, hh, by omega, hm, hs, ?_⟩⟩
    rw [Nat.mul_one] at hx ⊢
    have e2 : wcells (l.take k) = (wcells l).take k := by simp [wcells, List.map_take]
    rw [e2, ← hx, List.take_take, Nat.min_eq_left hk]
theorem own_low {w : World} {B B' e s n : Nat} {v : Value} {xs : List Value} (h : w.ownsRow B e s v n xs) (hB : B' ≤ B) : w.ownsRow B' e s v n xs := by
  refine ⟨h.1, ?_⟩
  rcases h.2 with h2 | ⟨g, cap, cur, h2, hb, rest⟩
  · exact Or.inl h2
  · exact Or.inr ⟨g, cap, cur, h2, by omega, rest⟩
/-- The speaker as Fix makes it, k of the words being replaced by L. -/
def Sp.fixTo (S : Sp) (k : Nat) (L : List (List UInt8)) : Sp := if k ≤ S.count then S.fixIn k L else S.fixOut k L
theorem fix_to {S : Sp} {k : Nat} {l : List UInt8} (h1 : 1 ≤ k) (h8 : k ≤ 8) (h : spkE l = 0) (h2 : ¬ S.count + S.tkn.length < k) : S.fix (k : Int) l = S.cap (S.fixTo k (spkL l)) := by
  unfold Sp.fixTo
  split
  · exact fix_in h1 h8 h h2 (by assumption)
  · exact fix_out h1 h8 h h2 (by assumption)
theorem fixTo_rest {S : Sp} {k : Nat} {L : List (List UInt8)} : (S.fixTo k L).hold = S.hold ∧ (S.fixTo k L).brk = S.brk ∧ (S.fixTo k L).free = min S.free (S.opn.length - min k S.count) ∧ (S.fixTo k L).tkn = S.tkn.take (S.tkn.length - (k - S.count)) := by
  unfold Sp.fixTo
  split
  · rename_i h
    exact ⟨rfl, rfl, by rw [show min k S.count = k by omega]; rfl, by rw [show k - S.count = 0 by omega, Nat.sub_zero, List.take_length]; rfl⟩
  · rename_i h
    exact ⟨rfl, rfl, by rw [show min k S.count = S.count by omega]; rfl, rfl⟩
theorem fixTo_in {S : Sp} {k : Nat} {L : List (List UInt8)} (h : k ≤ S.count) : (S.fixTo k L).mark = S.mark ∧ S.opn.take (S.opn.length - k) ++ newW (S.opn.getD (S.opn.length - k) default).2.1 (S.opn.getD (S.opn.length - k) default).2.2 L = (S.fixTo k L).opn := by
  unfold Sp.fixTo; rw [if_pos h]; exact ⟨rfl, rfl⟩
theorem fixTo_out {S : Sp} {k : Nat} {L : List (List UInt8)} (h : ¬ k ≤ S.count) : (S.fixTo k L).mark = true ∧ (S.mark = true → S.opn.take (S.opn.length - S.count) ++ newW false true L = (S.fixTo k L).opn) ∧ (S.mark = false → (S.opn.take (S.opn.length - S.count) ++ [markS]) ++ newW false true L = (S.fixTo k L).opn) := by
  unfold Sp.fixTo; rw [if_neg h]
  refine ⟨rfl, fun e => ?_, fun e => ?_⟩
  · show _ = (_ ++ (if S.mark = true then [] else [markS])) ++ _
    rw [if_pos e, List.append_nil]
  · show _ = (_ ++ (if S.mark = true then [] else [markS])) ++ _
    rw [if_neg (by simp [e])]
theorem row9_far3 {w : World} {B b n : Nat} {cs : Array Value} {v x y z : Value} {xs : List Value} (ho : w.ownsRow B 9 1 v n xs) (h : w.heap[b]? = some (.cells cs 59 (0, 0))) :
    (((w.setCell ⟨b, 0, none⟩ x).setCell ⟨b, 1, none⟩ y).setCell ⟨b, 2, none⟩ z).ownsRow B 9 1 v n xs := by
  have hn : v.ownBlock ≠ some b := by
    intro e
    rcases ho.2 with h2 | ⟨g', cap', cur, rfl, _, hg, _⟩
    · rw [h2.1] at e; cases e
    · injection e with e
      subst e
      rw [hg] at h
      injection h with h
      injection h with _ h _
      exact absurd h (by decide)
  exact own_far (own_far (own_far ho hn) hn) hn
theorem open_stepB {B : Nat} {d d' : List Spk} {x : Spk} {n : Nat} {w : World} {v : Value} (h : w.ownsRow B 59 3 v (n + 1) (scells d ++ scell x)) (hn : n = d.length) (he : d' = d ++ [x]) : w.ownsRow B 59 3 v d'.length (scells d') := by
  subst hn he
  rw [List.length_append, scells_app]
  simpa [scells] using h
/-- Behind an append to the new open words: the rest stays. -/
theorem fix_app {w W w5 : World} {B g n cap : Nat} {L : List (List UInt8)} {vL v : Value} {o : Obj} {xs : List Value} {d' : List Spk} {bx : Array Value} (h4 : W.ownsRow w.heap.size 59 3 v n xs) (hn : v.ownBlock ≠ some B) (h6 : W.heap[B]? = some (.cells bx 59 (0, 0))) (h1 : Below w.heap.size w W)
    (h5 : W.ownsRow w.heap.size 9 1 vL L.length (wcells L)) (hgrow : (W.alloc o).grownBy w5 v.ownBlock) (hat : v.ownBlock = some g ∨ g = W.heap.size + 1) (_ho : w5.ownsRow w.heap.size 59 3 (.slice (some ⟨g, 0, none⟩) d'.length cap) d'.length (scells d')) :
    (Value.slice (some ⟨g, 0, none⟩) d'.length cap).ownBlock ≠ some B ∧ w5.heap[B]? = some (.cells bx 59 (0, 0)) ∧ Below w.heap.size w w5 ∧ w5.ownsRow w.heap.size 9 1 vL L.length (wcells L) := by
  have hB := heap_lt h6
  have hbb := below1 (B := W.heap.size) (w := W) o (Nat.le_refl _)
  have hz := hbb.size
  have h4' := own_stays h4 hbb
  refine ⟨fun e => ?_, ?_, app_step h4' (h1.trans (hbb.mono h1.size)) (by have := h1.size; omega) hgrow, (own_stays h5 hbb).kept hgrow (rows_apart (by decide) h4' (own_stays h5 hbb))⟩
  · injection e with e
    have e : g = B := e
    rcases hat with q | q
    · exact hn (by rw [q, e])
    · omega
  · rw [hgrow.block B (by omega) (fun e => hn e.symm)]
    exact blk_stay h6 hbb
theorem Within.drew {O : Nat → Prop} {a w : World} (h : Within O a w) : Within O a w.drew := ⟨h.os, h.tape, h.output, h.size, h.block⟩
/-- Where Fix stands ahead of the loop over the new words. -/
def FixMid (w : World) (L : List (List UInt8)) (vL : Value) (TT : Sp) (Bx : Nat) (v11 v13 : Value) (wx : World) : Prop :=
  ∃ (d : List Spk) (tx : Value) (bk fx : Bool), wx.ownsRow w.heap.size 59 3 v11 d.length (scells d) ∧ v11.ownBlock ≠ some Bx ∧ wx.heap[Bx]? = some (.cells #[tx, .bool bk, .bool fx] 59 (0, 0)) ∧
    v13 = .bool TT.mark ∧ d ++ newW bk fx L = TT.opn ∧ Below w.heap.size w wx ∧ d.length ≤ 401 ∧ wx.ownsRow w.heap.size 9 1 vL L.length (wcells L)
theorem cap_full {S T : Sp} (h : 400 < T.opn.length) : S.cap T = (S, 9) := by unfold Sp.cap; rw [if_pos h]
theorem cap_fits {S T : Sp} (h : ¬ 400 < T.opn.length) : S.cap T = (T, 0) := by unfold Sp.cap; rw [if_neg h]
set_option maxHeartbeats 8000000 in
set_option maxRecDepth 100000 in
theorem fix_any (w : World) (O : Nat → Prop) (b : Nat) (S : Sp) (k : Nat) (t : ByteArray) (h : SpAt w O b S) (hS : S.ok) (hk1 : 1 ≤ k) (hk8 : k ≤ 8) (ht : t.size ≤ 65536) (hE : Env w) :
    Calls Tryd.prog 42 #[ptr b, .int .i64 k, .string t] w fun e w' => e = .returned (.int .i64 (S.fix k t.data.toList).2) ∧ SpAt w' (grow O w w') b (S.fix k t.data.toList).1 ∧ Within O w w' := by
  have c := spk_any t w ht hE
  have Hbad := Lib.hid (@fix_bad S k t.data.toList hk1 hk8)
  have Hnone := Lib.hid (@fix_none S k t.data.toList hk1 hk8)
  have Hto := Lib.hid (@fix_to S k t.data.toList hk1 hk8)
  have hLl : (spkL t.data.toList).length ≤ 65537 := by
    unfold spkL
    split
    · have h := spW_len t.data.toList
      rw [← size_eq] at h; omega
    · simp
  have HT := Lib.hid h
  have HS := Lib.hid hS
  clear h hS
  generalize S.fix (k : Int) t.data.toList = R at *
  generalize spkE t.data.toList = E at *
  generalize spkL t.data.toList = L at *
  have hkz : ¬ (k : Int) < 1 := by omega
  have hkz2 : ¬ (8 : Int) < (k : Int) := by omega
  have hkd : (decide ((k : Int) < 1)) = false := by simp; omega
  go_enter Tryd.func42, Tryd.ntmps42
  go_wp2_with fail
  refine c.mono ?_
  rintro e w1 ⟨v, rfl, ho, hb⟩
  obtain ⟨a, cp, rfl⟩ := own_len ho
  clear c
  by_cases hE0 : E = 0
  · subst hE0
    have HT1 := Lib.hid (HT.out.below hb)
    have cc := counting_any w1 O b S HT1.out HS.out
    go_wp2_with fail
    refine cc.mono ?_
    rintro e w1' ⟨rfl, rfl⟩
    have hcl := count_le (S := S)
    have hlen := HS.out.len
    have htk := HS.out.tkn
    have hfr := HS.out.free
    have HC : Hid (S.count ≤ S.opn.length ∧ S.opn.length ≤ 400 ∧ S.tkn.length ≤ 8 ∧ S.free ≤ S.opn.length) := Lib.hid ⟨hcl, hlen, htk, hfr⟩
    have Htr := Lib.hid (@fixTo_rest S k L)
    obtain ⟨vo, vt, h1, h2, h3, h4, h5, h6⟩ := HT1.out
    have HB := Lib.hid h1
    have H2 := Lib.hid h2
    have H3 := Lib.hid h3
    obtain ⟨ao, co, rfl⟩ := own_len h2
    obtain ⟨at4, ct4, rfl⟩ := own_len h3
    obtain ⟨c0, c1, c2, c3, c4, c5, hf, hlt⟩ := blk_facts h1
    clear h1 h2 h3 h4 h5 h6 cc
    by_cases hno : S.count + S.tkn.length < k
    · have HR := Lib.hid (Hnone.out trivial hno)
      have hz : (S.count : Int) + (S.tkn.length : Int) < (k : Int) := by omega
      clear Hbad Hnone Hto
      go_wp2_with fail
      go_ret
      rw [HR.out]
      exact ⟨rfl, HT1.out.weaken (fun k hk => Or.inl hk), Within.of_below hb⟩
    · have HR := Lib.hid (Hto.out trivial hno)
      have hz : ¬ (S.count : Int) + (S.tkn.length : Int) < (k : Int) := by omega
      clear Hbad Hnone Hto
      have hMo := Lib.hid (@fixTo_in S k L)
      have hMu := Lib.hid (@fixTo_out S k L)
      have HKP : Hid (S.count ≤ S.opn.length ∧ S.opn.length ≤ 400 ∧ S.tkn.length ≤ 8 ∧ ¬ S.count + S.tkn.length < k) := Lib.hid ⟨hcl, hlen, htk, hno⟩
      obtain ⟨kp, hkp⟩ : ∃ kp : Nat, kp = S.opn.length - min k S.count := ⟨_, rfl⟩
      have hkr : (S.opn.length : Int) - min (k : Int) (S.count : Int) = (kp : Int) := by omega
      have hkp' := Lib.hid hkp
      have hkl : kp ≤ S.opn.length := by omega
      have hco : S.opn.length ≤ co := own_capR H2.out
      have c75 := clone59 w1' _ _ _ (RowR.take3 (RowR.of_own H2.out) hkl) (one_scells _) (by omega)
      clear hkp
      go_upto_region 12 with fail
      clear hkr hno hz hcl htk hfr
      go_wp2_with fail
      refine c75.mono ?_
      rintro e w2 ⟨v4, rfl, ho4, hb4⟩
      obtain ⟨a4, e4, rfl⟩ := own_len ho4
      have HB2 := Lib.hid (blk_stay HB.out hb4)
      have HO4 := Lib.hid (own_low (B' := w.heap.size) ho4 hb.size)
      have hB2 : w1'.heap.size ≤ w2.heap.size := hb4.size
      have HL2 := Lib.hid (own_stays ho hb4)
      have hbw2 := Lib.hid (hb.trans (hb4.mono hb.size))
      have HF4 : Hid (∀ k, (Value.slice a4 kp e4).ownBlock = some k → w1'.heap.size ≤ k ∧ k < w2.heap.size) := Lib.hid (fun k hk => ⟨own_from ho4 hk, RowR.own_lt ho4 hk⟩)
      clear c0 c1 c2 c3 c4 c5 hf hlt ho4 c75 ho
      have h1 := HB2.out
      obtain ⟨c0, c1, c2, c3, c4, c5, hf, hlt⟩ := blk_facts h1
      clear h1
      go_upto_if 66 with fail
      refine world_as (fun W => Below w.heap.size w W ∧ W.heap[b]? = some (.cells (spc S.hold (.slice ao S.opn.length co) S.mark S.free (.slice at4 S.tkn.length ct4) S.brk) 88 (0, 0)) ∧ W.ownsRow 0 59 3 (.slice ao S.opn.length co) S.opn.length (scells S.opn) ∧
          W.ownsRow w.heap.size 59 3 (.slice a4 kp e4) kp (scells (S.opn.take kp)) ∧ W.ownsRow w.heap.size 9 1 (.slice a L.length cp) L.length (wcells L) ∧ W.heap[w2.heap.size]? = some (.cells #[.string ⟨#[]⟩, .bool false, .bool true] 59 (0, 0)))
        ⟨hbw2.out.alloc (by have := hb.size; omega) _, blk_stay HB2.out (below1 _ (Nat.le_refl _)), own_stays (own_stays H2.out hb4) (below1 _ (Nat.le_refl _)), own_stays HO4.out (below1 _ (Nat.le_refl _)), own_stays HL2.out (below1 _ (Nat.le_refl _)), heap_alloc_new w2 _⟩ ?_
      rintro W ⟨k1, k2, k3, k4, k5, k6⟩
      have hwB : w.heap.size ≤ w2.heap.size := by have := hb.size; omega
      have HFB : Hid ((Value.slice a4 kp e4).ownBlock ≠ some w2.heap.size) := Lib.hid (fun e => by have := HF4.out _ e; omega)
      have HOB : Hid ((Value.slice ao S.opn.length co).ownBlock ≠ some w2.heap.size) := Lib.hid (fun e => by have := RowR.own_lt (own_stays H2.out hb4) e; omega)
      clear HB2 HO4 HL2 hbw2 HF4 c0 c1 c2 c3 c4 c5 hf hlt hB2 HB H2 H3 hb4
      generalize w2.heap.size = B at *
      clear w2
      go_cut [11, 13] (fun v11 v13 wx => FixMid w L (.slice a L.length cp) (S.fixTo k L) B v11 v13 wx)
      case first =>
        obtain ⟨c0, c1, c2, c3, c4, c5, hf, hlt⟩ := blk_facts k2
        obtain ⟨x0, x1, x2, xf, xlt⟩ := blk3 k6
        have hkk := HKP.out
        have K1 := Lib.hid k1
        have K3 := Lib.hid k3
        have K4 := Lib.hid k4
        have K5 := Lib.hid k5
        have K6 := Lib.hid k6
        have hdl : (S.opn.take kp).length = kp := by rw [List.length_take]; omega
        by_cases hko : k ≤ S.count
        · have HZ := Lib.hid (hMo.out hko)
          have hkz : (k : Int) ≤ (S.count : Int) := by omega
          have hpp : kp = S.opn.length - k := by have := hkp'.out; omega
          have hpz : kp < S.opn.length := by omega
          have hpz2 : (kp : Int) < (S.opn.length : Int) := by omega
          obtain ⟨g, rfl, hg⟩ : ∃ g, ao = some ⟨g, 0, none⟩ ∧ g < W.heap.size := by
            obtain ⟨g, c, e, _, hg⟩ := k3.form (by omega)
            injection e with e1 _ _
            exact ⟨g, e1, hg⟩
          obtain ⟨y0, y1, y2⟩ := RowR.at3 (RowR.of_own k3) kp hpz
          rw [Nat.zero_add] at y0 y1 y2
          have hgB : g ≠ B := fun e => HOB.out (by rw [← e]; rfl)
          have hgB2 : B ≠ g := hgB.symm
          rw [hpp.symm] at HZ
          have HDL := Lib.hid hdl
          clear k1 k3 k4 k5 k6 hdl hpp hkk
          generalize hY' : S.opn.getD kp default = Y at *
          go_wp2_with fail
          go_meet
          exact ⟨S.opn.take kp, _, Y.2.1, Y.2.2, by rw [HDL.out]; exact own_far (own_far (own_far K4.out HFB.out) HFB.out) HFB.out, HFB.out, set3 K6.out, by rw [HZ.out.1], HZ.out.2, ((K1.out.setCell hwB _).setCell hwB _).setCell hwB _, by rw [HDL.out]; omega, row9_far3 K5.out K6.out⟩
        · have HZ := Lib.hid (hMu.out hko)
          have hkz : ¬ (k : Int) ≤ (S.count : Int) := by omega
          have hpp : S.opn.length - S.count = kp := by have := hkp'.out; omega
          rw [hpp] at HZ
          have HDL := Lib.hid hdl
          have hxz : W.heap.size + 1 = (W.alloc (.cells #[.string ⟨#[45, 45]⟩, .bool false, .bool true] 59)).heap.size := by simp
          have HXZ := Lib.hid hxz
          have hbz' : w.heap.size ≤ (W.alloc (.cells #[.string ⟨#[45, 45]⟩, .bool false, .bool true] 59)).heap.size := by have := k1.size; simp; omega
          clear k1 k3 k4 k5 k6 hdl hpp hkk hxz
          cases hmk : S.mark
          · rw [hmk] at c2
            have HM := Lib.hid (HZ.out.2.2 hmk)
            have HM1 := Lib.hid HZ.out.1
            clear hmk HZ
            obtain ⟨i0, hi, iz0, iz1, iz2⟩ := info_parts info59
            go_wp2_with (at_builtin; refine wpList_append_lies _ rfl _ _ 51 rfl w.heap.size 59 i0 _ 3 24 Tryd.underlying51 hi iz0 iz1 iz2 rfl (by decide) (.slice a4 kp e4) kp _ rfl (K4.out.alloc _) ⟨W.heap.size, 0, none⟩ 1 1 [.string ⟨#[45, 45]⟩, .bool false, .bool true] rfl rfl (World.news_of_block (cs := #[.string ⟨#[45, 45]⟩, .bool false, .bool true]) (t := 59) (fr := (0, 0)) (heap_alloc_new W _)) (by simp [Value.oneCell']) (by decide) (by unfold maxLen; omega) (by omega) hbz' (W.heap.size + 1) (by simp) ?_)
            intro gg cap w5 hown hgrow hat hlt5
            have hq := open_stepB (d := S.opn.take kp) (d' := S.opn.take kp ++ [markS]) (x := markS) hown HDL.out.symm rfl
            have hdl' : (S.opn.take kp ++ [markS]).length = kp + 1 := by rw [List.length_append, HDL.out]; rfl
            have HQ := Lib.hid (fix_app (d' := S.opn.take kp ++ [markS]) K4.out HFB.out K6.out K1.out K5.out hgrow hat (by rw [hdl'] at hq ⊢; exact hq))
            have HQ2 := Lib.hid hq
            have HD2 := Lib.hid hdl'
            clear hown hgrow hat hq hdl' c0 c1 c2 c3 c4 c5 hf hlt x0 x1 x2 xf xlt
            go_wp2_with fail
            go_meet
            rw [← HD2.out]
            exact ⟨S.opn.take kp ++ [markS], _, false, true, by rw [HD2.out]; have := HQ2.out; rw [HD2.out] at this; exact this, HQ.out.1, HQ.out.2.1, by rw [HM1.out], HM.out, HQ.out.2.2.1, by rw [HD2.out]; omega, HQ.out.2.2.2⟩
          · rw [hmk] at c2
            have HM := Lib.hid (HZ.out.2.1 hmk)
            have HM1 := Lib.hid HZ.out.1
            clear hmk HZ
            go_wp2_with fail
            go_meet
            exact ⟨S.opn.take kp, _, false, true, by rw [HDL.out]; exact K4.out, HFB.out, K6.out, by rw [HM1.out], HM.out, K1.out, by rw [HDL.out]; omega, K5.out⟩
      case rest =>
        clear k1 k2 k3 k4 k5 k6 HFB HOB hMo hMu HT1 hb
        obtain ⟨d0, tx, bk, fx, q1, q2, q3, rfl, HD, q6, q7, q8⟩ := hcut
        obtain ⟨TT, hTT⟩ : ∃ TT, TT = S.fixTo k L := ⟨_, rfl⟩
        rw [← hTT] at HD HR Htr ⊢
        clear hTT
        have HD := Lib.hid HD
        go_wp2_with fail
        go_loopw [11, 82] (fun v11 iv wx => ∃ (i : Nat) (d : List Spk), iv = .int .i64 i ∧ i ≤ L.length ∧ d.length ≤ 401 + i ∧ wx.ownsRow w.heap.size 59 3 v11 d.length (scells d) ∧ v11.ownBlock ≠ some B ∧ wx.heap[B]? = some (.cells #[tx, .bool bk, .bool fx] 59 (0, 0)) ∧ Below w.heap.size w wx ∧ wx.ownsRow w.heap.size 9 1 (.slice a L.length cp) L.length (wcells L) ∧ Hid (d ++ newGo bk fx i (L.drop i) = TT.opn)) (fun _ v _ => L.length - (intOf v).toNat)
        case atStart => exact ⟨0, d0, rfl, Nat.zero_le _, by omega, q1, q2, q3, q6, q8, Lib.hid (by rw [List.drop_zero]; exact HD.out)⟩
        case round =>
          clear q1 q2 q3 q6 q7 q8 HD
          obtain ⟨i, d, rfl, hil, hd, q1, q2, q3, q6, q8, HD⟩ := hrel
          obtain ⟨a5, c5, rfl⟩ := own_len q1
          by_cases hlt' : i < L.length
          · have hz : (i : Int) < (L.length : Int) := by omega
            obtain ⟨g, rfl, hg, hc⟩ := own_at q8 i hlt'
            rw [strV_ba] at hc
            have HD2 := Lib.hid (HD.out.symm.trans (by rw [newGo_drop bk fx L i hlt']))
            obtain ⟨x0, x1, x2, xf, xlt⟩ := blk3 q3
            have Q := Lib.hid (And.intro q1 (And.intro q2 (And.intro q3 (And.intro q6 q8))))
            have hzz : ∀ o : Obj, w.heap.size ≤ (wr.alloc o).heap.size := fun o => by have := q6.size; simp; omega
            have HZZ := Lib.hid hzz
            obtain ⟨i0, hi, iz0, iz1, iz2⟩ := info_parts info59
            clear q1 q2 q3 q6 q8 HD hzz
            generalize hY : L.getD i [] = Y at *
            clear hY
            by_cases hi0 : i = 0
            · subst hi0
              have hiz : ((0 : Int) == 0) = true := rfl
              go_wp2_with (at_builtin; refine wpList_append_lies _ rfl _ _ 51 rfl w.heap.size 59 i0 _ 3 24 Tryd.underlying51 hi iz0 iz1 iz2 rfl (by decide) (.slice a5 d.length c5) d.length _ rfl (Q.out.1.alloc _) ⟨wr.heap.size, 0, none⟩ 1 1 [.string (ba Y), .bool bk, .bool fx] rfl rfl (World.news_of_block (cs := #[.string (ba Y), .bool bk, .bool fx]) (t := 59) (fr := (0, 0)) (heap_alloc_new wr _)) (by simp [Value.oneCell']) (by decide) (by unfold maxLen; omega) (by omega) (HZZ.out _) (wr.heap.size + 1) (by simp) ?_)
              intro gg cap w5 hown hgrow hat hlt5
              have hq := open_stepB (d' := d ++ [(Y, bk, fx)]) (x := (Y, bk, fx)) hown rfl rfl
              have hdl' : (d ++ [(Y, bk, fx)]).length = d.length + 1 := by rw [List.length_append]; rfl
              have HQ := Lib.hid (fix_app (d' := d ++ [(Y, bk, fx)]) Q.out.1 Q.out.2.1 Q.out.2.2.1 Q.out.2.2.2.1 Q.out.2.2.2.2 hgrow hat (by rw [hdl'] at hq ⊢; exact hq))
              have HQ2 := Lib.hid hq
              have HD3 := Lib.hid hdl'
              clear hown hgrow hat hq hdl' x0 x1 x2 xf xlt
              go_wp2_with fail
              go_roundw
              case rel => exact ⟨0 + 1, d ++ [(Y, bk, fx)], by go_num, by omega, by rw [HD3.out]; omega, by have := HQ2.out; rw [HD3.out] at this ⊢; exact this, HQ.out.1, HQ.out.2.1, HQ.out.2.2.1, HQ.out.2.2.2, Lib.hid (by rw [List.append_assoc]; exact HD2.out.symm)⟩
              case measure => simp [intOf]; omega
            · have hiz : ((i : Int) == 0) = false := by simp; omega
              have hin : (i == 0) = false := by simpa using hi0
              rw [hin, Bool.false_and] at HD2
              clear hin
              go_wp2_with (at_builtin; refine wpList_append_lies _ rfl _ _ 51 rfl w.heap.size 59 i0 _ 3 24 Tryd.underlying51 hi iz0 iz1 iz2 rfl (by decide) (.slice a5 d.length c5) d.length _ rfl (Q.out.1.alloc _) ⟨wr.heap.size, 0, none⟩ 1 1 [.string (ba Y), .bool false, .bool fx] rfl rfl (World.news_of_block (cs := #[.string (ba Y), .bool false, .bool fx]) (t := 59) (fr := (0, 0)) (heap_alloc_new wr _)) (by simp [Value.oneCell']) (by decide) (by unfold maxLen; omega) (by omega) (HZZ.out _) (wr.heap.size + 1) (by simp) ?_)
              intro gg cap w5 hown hgrow hat hlt5
              have hq := open_stepB (d' := d ++ [(Y, false, fx)]) (x := (Y, false, fx)) hown rfl rfl
              have hdl' : (d ++ [(Y, false, fx)]).length = d.length + 1 := by rw [List.length_append]; rfl
              have HQ := Lib.hid (fix_app (d' := d ++ [(Y, false, fx)]) Q.out.1 Q.out.2.1 Q.out.2.2.1 Q.out.2.2.2.1 Q.out.2.2.2.2 hgrow hat (by rw [hdl'] at hq ⊢; exact hq))
              have HQ2 := Lib.hid hq
              have HD3 := Lib.hid hdl'
              clear hown hgrow hat hq hdl' x0 x1 x2 xf xlt
              go_wp2_with fail
              go_roundw
              case rel => exact ⟨i + 1, d ++ [(Y, false, fx)], by go_num, by omega, by rw [HD3.out]; omega, by have := HQ2.out; rw [HD3.out] at this ⊢; exact this, HQ.out.1, HQ.out.2.1, HQ.out.2.2.1, HQ.out.2.2.2, Lib.hid (by rw [List.append_assoc]; exact HD2.out.symm)⟩
              case measure => simp [intOf]; omega
          · obtain rfl : i = L.length := by omega
            have hz : ¬ (L.length : Int) < (L.length : Int) := by omega
            have hD2 := HD.out
            rw [newGo_end, List.append_nil] at hD2
            have HD2 := Lib.hid hD2
            have hdt : d.length = TT.opn.length := by rw [hD2]
            clear hD2 HD q8 q3
            have hA := HT.out.below q6
            by_cases hfull : 400 < d.length
            · have hRR := HR.out
              rw [cap_full (by omega)] at hRR
              have HR2 := Lib.hid hRR
              clear hRR hdt HR
              have hfz : (400 : Int) < (d.length : Int) := by omega
              go_wp2_with fail
              go_ret
              rw [HR2.out]
              exact ⟨rfl, hA.weaken (fun k hk => Or.inl hk), Within.of_below q6⟩
            · have hRR := HR.out
              rw [cap_fits (by omega)] at hRR
              have HR2 := Lib.hid hRR
              clear hRR hdt HR
              have hfz : ¬ (400 : Int) < (d.length : Int) := by omega
              have HA := Lib.hid hA
              obtain ⟨vo, vt, h1, h2, h3, h4, h5, h6⟩ := hA
              obtain ⟨at6, ct6, rfl⟩ := own_len h3
              have hct : S.tkn.length ≤ ct6 := own_capR h3
              obtain ⟨c0, c1, c2, c3, c4, c5, hf, hlt⟩ := blk_facts h1
              have H3 := Lib.hid h3
              have HH6 := Lib.hid h6
              have HO := Lib.hid h4
              have Hq1 := Lib.hid q1
              have Hq6 := Lib.hid q6
              have hkk := HKP.out
              have htk := HC.out.2.2.1
              obtain ⟨m, hm⟩ : ∃ m : Nat, m = k - S.count := ⟨_, rfl⟩
              obtain ⟨r, hr⟩ : ∃ r : Nat, r = S.tkn.length - m := ⟨_, rfl⟩
              have hw1 : IntKind.i64.wrap ((k : Int) - (S.count : Int)) = (k : Int) - (S.count : Int) := IntWalk.i64_in _ (by omega)
              have hmx : max ((k : Int) - (S.count : Int)) 0 = (m : Int) := by omega
              have hw2 : IntKind.i64.wrap ((S.tkn.length : Int) - (m : Int)) = (r : Int) := by rw [IntWalk.i64_in _ (by omega)]; omega
              have hrc : r ≤ ct6 := by omega
              have hrN : r ≤ S.tkn.length := by omega
              have hrz : (r : Int) ≤ (ct6 : Int) := by omega
              have HMM : Hid (r = S.tkn.length - (k - S.count)) := Lib.hid (by rw [hr, hm])
              have hf4' := hf 4
              clear h1 h2 h3 h4 h5 h6 q1 q2 q6 hm hr hkk htk c0 c5
              go_wp2_with fail
              refine wp_region_tail 16 (S := (fun w' => w'.cell? ⟨b, 4, none⟩ = some (.slice at6 S.tkn.length ct6) ∧ w'.frozen? ⟨b, 4, none⟩ = false)) (by kernel_rfl) ⟨c4, hf4'⟩ (fun hHeld => ?_)
              simp only [List.size_toArray, List.length_cons, List.length_nil, Nat.zero_add, Nat.reduceAdd]
              refine wpAnyT_take (i := 0) (oi := { dst := some 104, op := Go.Op.move (Go.Operand.tmp 0), type := 48, pos := "respeak.go:133", after := #[], guard := none }) (v := ?_) rfl (by kernel_rfl) (by kernel_rfl) (by kernel_rfl) (by kernel_rfl) (fun _ _ _ h => h) (Or.inl ⟨by rfl, ?_⟩) (by assumption) ?_
              rotate_left
              · intro w hSw
                (try dsimp only at hSw)
                go_simp
                all_goals (with_reducible rfl)
              try simp only [Act.put, List.setIfInBounds_toArray, List.set_cons_zero, List.set_cons_succ]
              refine wpAnyT_take (i := 1) (oi := { dst := some 105, op := Go.Op.move (Go.Operand.tmp 0), type := 48, pos := "respeak.go:133", after := #[], guard := none }) (v := ?_) rfl (by kernel_rfl) (by kernel_rfl) (by kernel_rfl) (by kernel_rfl) (fun _ _ _ h => h) (Or.inl ⟨by rfl, ?_⟩) (by assumption) ?_
              rotate_left
              · intro w hSw
                (try dsimp only at hSw)
                go_simp
                all_goals (with_reducible rfl)
              try simp only [Act.put, List.setIfInBounds_toArray, List.set_cons_zero, List.set_cons_succ]
              refine wpAnyT_take (i := 2) (oi := { dst := some 106, op := Go.Op.nilCheck (Go.Operand.tmp 105), type := 0, pos := "respeak.go:133", after := #[{ on := 1, ground := Go.Ground.data }], guard := none }) (v := ?_) rfl (by kernel_rfl) (by kernel_rfl) (by kernel_rfl) (by kernel_rfl) (fun _ _ _ h => h) (Or.inl ⟨by rfl, ?_⟩) (by assumption) ?_
              rotate_left
              · intro w hSw
                (try dsimp only at hSw)
                go_simp
                all_goals (with_reducible rfl)
              try simp only [Act.put, List.setIfInBounds_toArray, List.set_cons_zero, List.set_cons_succ]
              refine wpAnyT_take (i := 3) (oi := { dst := some 107, op := Go.Op.fieldAddr 88 (Go.Operand.tmp 106) 4, type := 0, pos := "respeak.go:133", after := #[{ on := 2, ground := Go.Ground.data }], guard := none }) (v := ?_) rfl (by kernel_rfl) (by kernel_rfl) (by kernel_rfl) (by kernel_rfl) (fun _ _ _ h => h) (Or.inl ⟨by rfl, ?_⟩) (by assumption) ?_
              rotate_left
              · intro w hSw
                (try dsimp only at hSw)
                go_simp
                all_goals (with_reducible rfl)
              try simp only [Act.put, List.setIfInBounds_toArray, List.set_cons_zero, List.set_cons_succ]
              refine wpAnyT_take (i := 4) (oi := { dst := some 108, op := Go.Op.load 42 (Go.Operand.tmp 107), type := 42, pos := "respeak.go:133", after := #[{ on := 3, ground := Go.Ground.data }], guard := none }) (v := ?_) rfl (by kernel_rfl) (by kernel_rfl) (by kernel_rfl) (by kernel_rfl) (fun _ _ _ h => h) (Or.inl ⟨by rfl, ?_⟩) (by assumption) ?_
              rotate_left
              · intro w hSw
                (try dsimp only at hSw)
                go_simp
                all_goals (with_reducible rfl)
              try simp only [Act.put, List.setIfInBounds_toArray, List.set_cons_zero, List.set_cons_succ]
              refine wpAnyT_take (i := 5) (oi := { dst := some 109, op := Go.Op.move (Go.Operand.tmp 0), type := 48, pos := "respeak.go:133", after := #[], guard := none }) (v := ?_) rfl (by kernel_rfl) (by kernel_rfl) (by kernel_rfl) (by kernel_rfl) (fun _ _ _ h => h) (Or.inl ⟨by rfl, ?_⟩) (by assumption) ?_
              rotate_left
              · intro w hSw
                (try dsimp only at hSw)
                go_simp
                all_goals (with_reducible rfl)
              try simp only [Act.put, List.setIfInBounds_toArray, List.set_cons_zero, List.set_cons_succ]
              refine wpAnyT_take (i := 6) (oi := { dst := some 110, op := Go.Op.nilCheck (Go.Operand.tmp 109), type := 0, pos := "respeak.go:133", after := #[{ on := 5, ground := Go.Ground.data }], guard := none }) (v := ?_) rfl (by kernel_rfl) (by kernel_rfl) (by kernel_rfl) (by kernel_rfl) (fun _ _ _ h => h) (Or.inl ⟨by rfl, ?_⟩) (by assumption) ?_
              rotate_left
              · intro w hSw
                (try dsimp only at hSw)
                go_simp
                all_goals (with_reducible rfl)
              try simp only [Act.put, List.setIfInBounds_toArray, List.set_cons_zero, List.set_cons_succ]
              refine wpAnyT_take (i := 7) (oi := { dst := some 111, op := Go.Op.fieldAddr 88 (Go.Operand.tmp 110) 4, type := 0, pos := "respeak.go:133", after := #[{ on := 6, ground := Go.Ground.data }], guard := none }) (v := ?_) rfl (by kernel_rfl) (by kernel_rfl) (by kernel_rfl) (by kernel_rfl) (fun _ _ _ h => h) (Or.inl ⟨by rfl, ?_⟩) (by assumption) ?_
              rotate_left
              · intro w hSw
                (try dsimp only at hSw)
                go_simp
                all_goals (with_reducible rfl)
              try simp only [Act.put, List.setIfInBounds_toArray, List.set_cons_zero, List.set_cons_succ]
              refine wpAnyT_take (i := 8) (oi := { dst := some 112, op := Go.Op.load 42 (Go.Operand.tmp 111), type := 42, pos := "respeak.go:133", after := #[{ on := 7, ground := Go.Ground.data }], guard := none }) (v := ?_) rfl (by kernel_rfl) (by kernel_rfl) (by kernel_rfl) (by kernel_rfl) (fun _ _ _ h => h) (Or.inl ⟨by rfl, ?_⟩) (by assumption) ?_
              rotate_left
              · intro w hSw
                (try dsimp only at hSw)
                go_simp
                all_goals (with_reducible rfl)
              try simp only [Act.put, List.setIfInBounds_toArray, List.set_cons_zero, List.set_cons_succ]
              refine wpAnyT_take (i := 9) (oi := { dst := some 113, op := Go.Op.call { callee := Go.Callee.builtin Go.Builtin.len, args := #[Go.Operand.tmp 112], argTypes := #[42] }, type := 3, pos := "respeak.go:133", after := #[{ on := 8, ground := Go.Ground.data }], guard := none }) (v := ?_) rfl (by kernel_rfl) (by kernel_rfl) (by kernel_rfl) (by kernel_rfl) (fun _ _ _ h => h) (Or.inl ⟨by rfl, ?_⟩) (by assumption) ?_
              rotate_left
              · intro w hSw
                (try dsimp only at hSw)
                go_simp
                all_goals (with_reducible rfl)
              try simp only [Act.put, List.setIfInBounds_toArray, List.set_cons_zero, List.set_cons_succ]
              refine wpAnyT_take (i := 10) (oi := { dst := some 114, op := Go.Op.move (Go.Operand.tmp 1), type := 3, pos := "respeak.go:133", after := #[], guard := none }) (v := ?_) rfl (by kernel_rfl) (by kernel_rfl) (by kernel_rfl) (by kernel_rfl) (fun _ _ _ h => h) (Or.inl ⟨by rfl, ?_⟩) (by assumption) ?_
              rotate_left
              · intro w hSw
                (try dsimp only at hSw)
                go_simp
                all_goals (with_reducible rfl)
              try simp only [Act.put, List.setIfInBounds_toArray, List.set_cons_zero, List.set_cons_succ]
              refine wpAnyT_take (i := 11) (oi := { dst := some 115, op := Go.Op.move (Go.Operand.tmp 9), type := 3, pos := "respeak.go:133", after := #[], guard := none }) (v := ?_) rfl (by kernel_rfl) (by kernel_rfl) (by kernel_rfl) (by kernel_rfl) (fun _ _ _ h => h) (Or.inl ⟨by rfl, ?_⟩) (by assumption) ?_
              rotate_left
              · intro w hSw
                (try dsimp only at hSw)
                go_simp
                all_goals (with_reducible rfl)
              try simp only [Act.put, List.setIfInBounds_toArray, List.set_cons_zero, List.set_cons_succ]
              refine wpAnyT_take (i := 12) (oi := { dst := some 116, op := Go.Op.binOp Go.BinOp.sub 3 (Go.Operand.tmp 114) (Go.Operand.tmp 115) 3, type := 3, pos := "respeak.go:133", after := #[{ on := 10, ground := Go.Ground.data }, { on := 11, ground := Go.Ground.data }], guard := none }) (v := ?_) rfl (by kernel_rfl) (by kernel_rfl) (by kernel_rfl) (by kernel_rfl) (fun _ _ _ h => h) (Or.inl ⟨by rfl, ?_⟩) (by assumption) ?_
              rotate_left
              · intro w hSw
                (try dsimp only at hSw)
                go_simp
                all_goals (with_reducible rfl)
              try simp only [Act.put, List.setIfInBounds_toArray, List.set_cons_zero, List.set_cons_succ]
              refine wpAnyT_take (i := 13) (oi := { dst := some 117, op := Go.Op.call { callee := Go.Callee.builtin Go.Builtin.max, args := #[Go.Operand.tmp 116, Go.Operand.const (Go.Value.int Go.IntKind.i64 0)], argTypes := #[3, 3] }, type := 3, pos := "respeak.go:133", after := #[{ on := 12, ground := Go.Ground.data }], guard := none }) (v := ?_) rfl (by kernel_rfl) (by kernel_rfl) (by kernel_rfl) (by kernel_rfl) (fun _ _ _ h => h) (Or.inl ⟨by rfl, ?_⟩) (by assumption) ?_
              rotate_left
              · intro w hSw
                (try dsimp only at hSw)
                go_simp
                all_goals (with_reducible rfl)
              try simp only [Act.put, List.setIfInBounds_toArray, List.set_cons_zero, List.set_cons_succ]
              refine wpAnyT_take (i := 14) (oi := { dst := some 118, op := Go.Op.binOp Go.BinOp.sub 3 (Go.Operand.tmp 113) (Go.Operand.tmp 117) 3, type := 3, pos := "respeak.go:133", after := #[{ on := 9, ground := Go.Ground.data }, { on := 13, ground := Go.Ground.data }], guard := none }) (v := ?_) rfl (by kernel_rfl) (by kernel_rfl) (by kernel_rfl) (by kernel_rfl) (fun _ _ _ h => h) (Or.inl ⟨by rfl, ?_⟩) (by assumption) ?_
              rotate_left
              · intro w hSw
                (try dsimp only at hSw)
                go_simp
                all_goals (with_reducible rfl)
              try simp only [Act.put, List.setIfInBounds_toArray, List.set_cons_zero, List.set_cons_succ]
              refine wpAnyT_take (i := 15) (oi := { dst := some 119, op := Go.Op.slice 42 (Go.Operand.tmp 108) none (some (Go.Operand.tmp 118)) none, type := 42, pos := "respeak.go:133", after := #[{ on := 4, ground := Go.Ground.data }, { on := 14, ground := Go.Ground.data }], guard := none }) (v := ?_) rfl (by kernel_rfl) (by kernel_rfl) (by kernel_rfl) (by kernel_rfl) (fun _ _ _ h => h) (Or.inl ⟨by rfl, ?_⟩) (by assumption) ?_
              rotate_left
              · intro w hSw
                (try dsimp only at hSw)
                go_simp
                all_goals (with_reducible rfl)
              try simp only [Act.put, List.setIfInBounds_toArray, List.set_cons_zero, List.set_cons_succ]
              refine wpAnyT_last (i := 16) (o := { dst := some 120, op := Go.Op.nilCheck (Go.Operand.tmp 104), type := 0, pos := "respeak.go:133", after := #[{ on := 0, ground := Go.Ground.data }, { on := 0, ground := Go.Ground.phase }, { on := 1, ground := Go.Ground.phase }, { on := 2, ground := Go.Ground.phase }, { on := 3, ground := Go.Ground.phase }, { on := 4, ground := Go.Ground.phase }, { on := 5, ground := Go.Ground.phase }, { on := 6, ground := Go.Ground.phase }, { on := 7, ground := Go.Ground.phase }, { on := 8, ground := Go.Ground.phase }, { on := 9, ground := Go.Ground.phase }, { on := 10, ground := Go.Ground.phase }, { on := 11, ground := Go.Ground.phase }, { on := 12, ground := Go.Ground.phase }, { on := 13, ground := Go.Ground.phase }, { on := 14, ground := Go.Ground.phase }, { on := 15, ground := Go.Ground.phase }], guard := none }) (by kernel_rfl) rfl (by decide) (fun K hK => ?_)
              go_simp
              refine hK.out _ _ ?_
              clear hK K
              try simp only [Act.put, List.setIfInBounds_toArray, List.set_cons_zero, List.set_cons_succ]
              refine wpAnyT_last (i := 17) (o := { dst := some 121, op := Go.Op.fieldAddr 88 (Go.Operand.tmp 120) 4, type := 0, pos := "respeak.go:133", after := #[{ on := 16, ground := Go.Ground.data }, { on := 0, ground := Go.Ground.phase }, { on := 1, ground := Go.Ground.phase }, { on := 2, ground := Go.Ground.phase }, { on := 3, ground := Go.Ground.phase }, { on := 4, ground := Go.Ground.phase }, { on := 5, ground := Go.Ground.phase }, { on := 6, ground := Go.Ground.phase }, { on := 7, ground := Go.Ground.phase }, { on := 8, ground := Go.Ground.phase }, { on := 9, ground := Go.Ground.phase }, { on := 10, ground := Go.Ground.phase }, { on := 11, ground := Go.Ground.phase }, { on := 12, ground := Go.Ground.phase }, { on := 13, ground := Go.Ground.phase }, { on := 14, ground := Go.Ground.phase }, { on := 15, ground := Go.Ground.phase }], guard := none }) (by kernel_rfl) rfl (by decide) (fun K hK => ?_)
              go_simp
              refine hK.out _ _ ?_
              clear hK K
              try simp only [Act.put, List.setIfInBounds_toArray, List.set_cons_zero, List.set_cons_succ]
              refine wpAnyT_last (i := 18) (o := { dst := none, op := Go.Op.store 42 (Go.Operand.tmp 121) (Go.Operand.tmp 119), type := 0, pos := "respeak.go:133", after := #[{ on := 17, ground := Go.Ground.data }, { on := 15, ground := Go.Ground.data }, { on := 0, ground := Go.Ground.phase }, { on := 1, ground := Go.Ground.phase }, { on := 2, ground := Go.Ground.phase }, { on := 3, ground := Go.Ground.phase }, { on := 4, ground := Go.Ground.phase }, { on := 5, ground := Go.Ground.phase }, { on := 6, ground := Go.Ground.phase }, { on := 7, ground := Go.Ground.phase }, { on := 8, ground := Go.Ground.phase }, { on := 9, ground := Go.Ground.phase }, { on := 10, ground := Go.Ground.phase }, { on := 11, ground := Go.Ground.phase }, { on := 12, ground := Go.Ground.phase }, { on := 13, ground := Go.Ground.phase }, { on := 14, ground := Go.Ground.phase }, { on := 15, ground := Go.Ground.phase }], guard := none }) (by kernel_rfl) rfl (by decide) (fun K hK => ?_)
              go_simp
              refine hK.out _ _ ?_
              clear hK K
              try simp only [Act.put, List.setIfInBounds_toArray, List.set_cons_zero, List.set_cons_succ]
              refine wpAnyT_done (by kernel_rfl) ?_ _
              have HMF : Hid (min (S.free : Int) (kp : Int) = ((min S.free kp : Nat) : Int)) := Lib.hid (by omega)
              go_wp2_with fail
              go_ret
              rw [HR2.out, HMF.out]
              refine ⟨rfl, ?_, (((((Within.of_below Hq6.out).set HO.out).set HO.out).set HO.out).set HO.out).drew⟩
              obtain ⟨e1, e2, e3, e4⟩ := Htr.out
              have e5 : TT = ⟨S.hold, d, TT.mark, min S.free kp, S.tkn.take r, S.brk⟩ := by
                rw [HMM.out, hkp'.out, ← e4, ← e3, ← e1, ← e2, HD2.out]
              have q := ((((HA.out.weaken (O' := grow O w wr) (fun k hk => Or.inl hk)).setTkn (v := .slice at6 r ct6) (l := S.tkn.take r) (by rw [List.length_take, Nat.min_eq_left hrN]; exact own_take1 H3.out hrN) (fun k hk => Or.inl (HH6.out k (by cases at6 <;> exact hk)))).setOpn (l := d) (own_base (own_far Hq1.out (fun e => by have := own_from Hq1.out e; have := HT.out.lt; omega))) (fun k hk => Or.inr ⟨own_from Hq1.out hk, RowR.own_lt Hq1.out hk⟩)).setMark (m := TT.mark)).setFree (f := min S.free kp)
              rw [e5]
              refine SpAt.weaken (O := grow O w wr) q (fun k hk => ?_)
              rcases hk with hk | hk
              · exact Or.inl hk
              · exact Or.inr ⟨hk.1, by simpa using hk.2⟩
  · have HR := Lib.hid (Hbad.out hE0)
    have hEz : (E == 0) = false := by simpa using hE0
    clear Hbad Hnone Hto
    go_wp2_with fail
    go_ret
    rw [HR.out]
    exact ⟨rfl, (HT.out.below hb).weaken (fun k hk => Or.inl hk), Within.of_below hb⟩
end Go.Proofs.YtheemefggkcfbaaDoor
namespace Go.Proofs.YtheemefggkcfbaaDoor
open Go Go.Lib Go.RowKit Go.Shelf
/-! ### Clone; a number out of range; speakers that are none -/
theorem SpAt.apart {w w' : World} {O O' : Nat → Prop} {b : Nat} {S : Sp} (h : SpAt w O b S) (hW : Within O' w w') (hO : ∀ k, O k → ¬ O' k) : SpAt w' O b S := by
  obtain ⟨vo, vt, h1, h2, h3, h4, h5, h6⟩ := h
  have st : ∀ {e s n : Nat} {v : Value} {xs : List Value}, w.ownsRow 0 e s v n xs → (∀ k, v.ownBlock = some k → O k) → w'.ownsRow 0 e s v n xs := by
    intro e s n v xs ho hv
    refine ⟨ho.1, ?_⟩
    rcases ho.2 with h | ⟨g, cap, cur, rfl, hb, hg, rest⟩
    · exact Or.inl h
    · exact Or.inr ⟨g, cap, cur, rfl, hb, by rw [hW.block g (heap_lt hg) (hO g (hv g rfl))]; exact hg, rest⟩
  exact ⟨vo, vt, by rw [hW.block b (heap_lt h1) (hO b h4)]; exact h1, st h2 h5, st h3 h6, h4, h5, h6⟩
section
variable {w W w' w'' w4 w5 : World} {b B : Nat} {vo vt v1 v2 u : Value} {o : Nat} {S : Sp}
theorem cs_call (h : w'.cell? ⟨b, 1, none⟩ = some vo ∧ w'.cell? ⟨b, 4, none⟩ = some vt ∧ Below w.heap.size w w') (hlt : b < w.heap.size) (hb : Below w'.heap.size w' w'') : w''.cell? ⟨b, 1, none⟩ = some vo ∧ w''.cell? ⟨b, 4, none⟩ = some vt ∧ Below w.heap.size w w'' := by
  have hz := h.2.2.size
  exact ⟨(hb.cell (p := ⟨b, 1, none⟩) (by show b < _; omega)).trans h.1, (hb.cell (p := ⟨b, 4, none⟩) (by show b < _; omega)).trans h.2.1, h.2.2.trans (hb.mono hz)⟩
theorem cs_set (h : w'.cell? ⟨b, 1, none⟩ = some vo ∧ w'.cell? ⟨b, 4, none⟩ = some vt ∧ Below w.heap.size w w') (hlt : b < w.heap.size) (hB : w.heap.size ≤ B) : (w'.setCell ⟨B, o, none⟩ u).cell? ⟨b, 1, none⟩ = some vo ∧ (w'.setCell ⟨B, o, none⟩ u).cell? ⟨b, 4, none⟩ = some vt ∧ Below w.heap.size w (w'.setCell ⟨B, o, none⟩ u) :=
  ⟨(World.cell?_setCell_far _ _ _ _ (by show B ≠ b; omega)).trans h.1, (World.cell?_setCell_far _ _ _ _ (by show B ≠ b; omega)).trans h.2.1, h.2.2.setCell hB _⟩
theorem cs_below (h : w'.cell? ⟨b, 1, none⟩ = some vo ∧ w'.cell? ⟨b, 4, none⟩ = some vt ∧ Below w.heap.size w w') : Below w.heap.size w w' := h.2.2
theorem clone_endA (hbW : Below w.heap.size w W) (hB : W.heap[B]? = some (.cells (spc S.hold vo S.mark S.free vt S.brk) 88 (0, 0))) (hwB : w.heap.size ≤ B) (hb4 : Below W.heap.size W w4) (ho4 : w4.ownsRow W.heap.size 59 3 v1 S.opn.length (scells S.opn))
    (hb5 : Below w4.heap.size w4 w5) (ho5 : w5.ownsRow w4.heap.size 9 1 v2 S.tkn.length (wcells S.tkn)) :
    SpAt ((w5.setCell ⟨B, 1, none⟩ v1).setCell ⟨B, 4, none⟩ v2) (fun k => w.heap.size ≤ k ∧ k < ((w5.setCell ⟨B, 1, none⟩ v1).setCell ⟨B, 4, none⟩ v2).heap.size) B S ∧ Below w.heap.size w ((w5.setCell ⟨B, 1, none⟩ v1).setCell ⟨B, 4, none⟩ v2) := by
  have k5 := blk_stay (blk_stay hB hb4) hb5
  have r1 := own_base (own_stays ho4 hb5)
  have r2 := own_base ho5
  have hz4 := hb4.size
  have hz5 := hb5.size
  have hzW := hbW.size
  have hlB := heap_lt hB
  have hbl := (hbW.trans (hb4.mono hzW)).trans (hb5.mono (by omega))
  refine ⟨⟨v1, v2, blk_set (blk_set k5), row_far (by decide) (blk_set k5) (row_far (by decide) k5 r1), row_far (by decide) (blk_set k5) (row_far (by decide) k5 r2), ⟨hwB, by simp; omega⟩, fun k hk => ⟨by have := own_from ho4 hk; omega, by have := RowR.own_lt (own_stays ho4 hb5) hk; simpa using this⟩, fun k hk => ⟨by have := own_from ho5 hk; omega, by have := RowR.own_lt ho5 hk; simpa using this⟩⟩, (hbl.setCell hwB _).setCell hwB _⟩
theorem clone_endB (hbW : Below w.heap.size w W) (hB : W.heap[B]? = some (.cells (spc S.hold vo S.mark S.free vt S.brk) 88 (0, 0))) (hwB : w.heap.size ≤ B) (hb4 : Below W.heap.size W w4) (ho4 : w4.ownsRow W.heap.size 59 3 v1 S.opn.length (scells S.opn))
    (hb5 : Below (w4.setCell ⟨B, 1, none⟩ v1).heap.size (w4.setCell ⟨B, 1, none⟩ v1) w5) (ho5 : w5.ownsRow (w4.setCell ⟨B, 1, none⟩ v1).heap.size 9 1 v2 S.tkn.length (wcells S.tkn)) :
    SpAt (w5.setCell ⟨B, 4, none⟩ v2) (fun k => w.heap.size ≤ k ∧ k < (w5.setCell ⟨B, 4, none⟩ v2).heap.size) B S ∧ Below w.heap.size w (w5.setCell ⟨B, 4, none⟩ v2) := by
  have k4 := blk_stay hB hb4
  have k5 := blk_stay (blk_set k4 (o := 1) (u := v1)) hb5
  have r0 := row_far (u := v1) (o := 1) (by decide) k4 ho4
  have r1 := own_base (own_stays r0 hb5)
  have r2 := own_base ho5
  have hz4 := hb4.size
  have hz5 := hb5.size
  have hzW := hbW.size
  have hlB := heap_lt hB
  have hzs : (w4.setCell ⟨B, 1, none⟩ v1).heap.size = w4.heap.size := by simp
  have hbl := ((hbW.trans (hb4.mono hzW)).setCell hwB v1 (p := ⟨B, 1, none⟩)).trans (hb5.mono (by omega))
  refine ⟨⟨v1, v2, blk_set k5, row_far (by decide) k5 r1, row_far (by decide) k5 r2, ⟨hwB, by simp; omega⟩, fun k hk => ⟨by have := own_from ho4 hk; omega, by have := RowR.own_lt (own_stays r0 hb5) hk; simpa using this⟩, fun k hk => ⟨by have := own_from ho5 hk; omega, by have := RowR.own_lt ho5 hk; simpa using this⟩⟩, hbl.setCell hwB _⟩
end
set_option maxHeartbeats 8000000 in
set_option maxRecDepth 100000 in
theorem clone_any (w : World) (O : Nat → Prop) (b : Nat) (S : Sp) (h : SpAt w O b S) (hS : S.ok) :
    Calls Tryd.prog 49 #[ptr b] w fun e w' => ∃ b', e = .returned (ptr b') ∧ SpAt w' (fun k => w.heap.size ≤ k ∧ k < w'.heap.size) b' S ∧ Below w.heap.size w w' := by
  have HT := Lib.hid h
  obtain ⟨vo, vt, h1, h2, h3, h4, h5, h6⟩ := h
  obtain ⟨c0, c1, c2, c3, c4, c5, hf, hlt⟩ := blk_facts h1
  obtain ⟨ao, co, rfl⟩ := own_len h2
  obtain ⟨at4, ct4, rfl⟩ := own_len h3
  have R2 := RowR.of_own h2
  have R3 := RowR.of_own h3
  have hlen := hS.len
  have htk := hS.tkn
  clear h2 h3 h5 h6 hS h4 h1
  generalize hM : S.opn.length = M at *
  generalize hN : S.tkn.length = N at *
  have HM := Lib.hid hM
  have HN := Lib.hid hN
  clear hM hN
  go_enter Tryd.func49, Tryd.ntmps49
  go_wp2_with fail
  refine world_as (fun W => Below w.heap.size w W ∧ W.heap[w.heap.size]? = some (.cells (spc S.hold (.slice ao M co) S.mark S.free (.slice at4 N ct4) S.brk) 88 (0, 0))) ⟨below1 _ (Nat.le_refl _), heap_alloc_new w _⟩ ?_
  rintro W ⟨hbW, hB⟩
  have hwB : w.heap.size ≤ w.heap.size := Nat.le_refl _
  have hBl := heap_lt hB
  have e1 := (hbW.cell (p := ⟨b, 1, none⟩) hlt).trans c1
  have e4 := (hbW.cell (p := ⟨b, 4, none⟩) hlt).trans c4
  obtain ⟨x0, x1, x2, x3, x4, x5, xf, _⟩ := blk_facts hB
  have xf1 := xf 1
  have xf4 := xf 4
  clear c0 c1 c2 c3 c4 c5 hf x0 x2 x3 x5 xf
  have hbd : Below w.heap.size w W.drew := hbW.drew
  generalize hBn : w.heap.size = B at *
  subst hBn
  go_region_held3 (fun w' => w'.cell? ⟨b, 1, none⟩ = some (.slice ao M co) ∧ w'.cell? ⟨b, 4, none⟩ = some (.slice at4 N ct4) ∧ Below w.heap.size w w')
    (first
      | exact ⟨e1, e4, hbd⟩
      | exact cs_call (by assumption) hlt hb4
      | exact cs_call (by assumption) hlt hb5
      | exact cs_set (by assumption) hlt (Nat.le_refl _))
    (first
      | (go_at_call 75; refine (clone59 _ _ _ _ (R2.below (cs_below (by assumption))) (one_scells _) (by omega)).mono ?_; rintro e w4 ⟨v1, rfl, ho4, hb4⟩; obtain ⟨a7, c7, rfl⟩ := own_len ho4; have xx1 := hb4.cell (p := ⟨w.heap.size, 1, none⟩) hBl; have xx4 := hb4.cell (p := ⟨w.heap.size, 4, none⟩) hBl; have xy1 := hb4.frozen (p := ⟨w.heap.size, 1, none⟩) hBl; have xy4 := hb4.frozen (p := ⟨w.heap.size, 4, none⟩) hBl)
      | (go_at_call 77; refine (clone9 _ _ _ _ (R3.below (cs_below (by assumption))) (one_wcells _) (by omega)).mono ?_; rintro e w5 ⟨v2, rfl, ho5, hb5⟩; obtain ⟨a8, c8, rfl⟩ := own_len ho5; have yy1 := hb5.cell (p := ⟨w.heap.size, 1, none⟩) (by have := hb4.size; have h2 : W.drew.heap.size = W.heap.size := rfl; simp; omega); have yy4 := hb5.cell (p := ⟨w.heap.size, 4, none⟩) (by have := hb4.size; have h2 : W.drew.heap.size = W.heap.size := rfl; simp; omega); have yz1 := hb5.frozen (p := ⟨w.heap.size, 1, none⟩) (by have := hb4.size; have h2 : W.drew.heap.size = W.heap.size := rfl; simp; omega); have yz4 := hb5.frozen (p := ⟨w.heap.size, 4, none⟩) (by have := hb4.size; have h2 : W.drew.heap.size = W.heap.size := rfl; simp; omega)))
  all_goals
    have hq4 : Below W.heap.size W w4 := ⟨hb4.os, hb4.tape, hb4.output, hb4.size, hb4.block⟩
    have HE : Hid ((∀ hb5 : Below w4.heap.size w4 w5, ∀ ho5 : w5.ownsRow w4.heap.size 9 1 (.slice a8 N c8) S.tkn.length (wcells S.tkn), _) ∧ _) := Lib.hid ⟨fun hb5 ho5 => clone_endA (S := S) hbW hB (Nat.le_refl _) hq4 (by rw [HM.out]; exact ho4) hb5 ho5, trivial⟩
    have HE2 : Hid ((∀ hb5 : Below (w4.setCell ⟨w.heap.size, 1, none⟩ (.slice a7 M c7)).heap.size (w4.setCell ⟨w.heap.size, 1, none⟩ (.slice a7 M c7)) w5, ∀ ho5 : w5.ownsRow (w4.setCell ⟨w.heap.size, 1, none⟩ (.slice a7 M c7)).heap.size 9 1 (.slice a8 N c8) S.tkn.length (wcells S.tkn), _) ∧ _) := Lib.hid ⟨fun hb5 ho5 => clone_endB (S := S) hbW hB (Nat.le_refl _) hq4 (by rw [HM.out]; exact ho4) hb5 ho5, trivial⟩
    rw [← HN.out] at ho5
    go_wp2_with fail
    go_ret
    first
      | exact ⟨_, rfl, HE.out.1 hb5 (by rw [HN.out] at ho5 ⊢; exact ho5)⟩
      | exact ⟨_, rfl, HE2.out.1 hb5 (by rw [HN.out] at ho5 ⊢; exact ho5)⟩
end Go.Proofs.YtheemefggkcfbaaDoor
namespace Go.Proofs.YtheemefggkcfbaaDoor
open Go Go.Lib Go.RowKit Go.Shelf
/-! ### a number out of range; speakers that are none -/
abbrev nilp : Value := .pointer none
set_option maxHeartbeats 4000000 in
set_option maxRecDepth 100000 in
theorem fix_range_any (w : World) (b : Nat) (n : Int) (t : ByteArray) (hn : n < 1 ∨ 8 < n) :
    Calls Tryd.prog 42 #[ptr b, .int .i64 n, .string t] w fun e w' => e = .returned (.int .i64 2) ∧ w' = w := by
  rcases Int.lt_or_le n 1 with h1 | h1
  · have hd : (decide (n < 1)) = true := by simpa using h1
    go_enter Tryd.func42, Tryd.ntmps42
    go_wp2_with fail
    go_ret
    exact ⟨rfl, rfl⟩
  · have h2 : (8 : Int) < n := by omega
    have h3 : ¬ n < 1 := by omega
    have hd : (decide (n < 1)) = false := by simpa using h1
    go_enter Tryd.func42, Tryd.ntmps42
    go_wp2_with fail
    go_ret
    exact ⟨rfl, rfl⟩
section
variable (w : World)
set_option maxHeartbeats 4000000 in
set_option maxRecDepth 100000 in
theorem nil_say (t : ByteArray) : Calls Tryd.prog 38 #[nilp, .string t] w fun e w' => e = .returned (.int .i64 1) ∧ w' = w := by
  go_enter Tryd.func38, Tryd.ntmps38
  go_wp2_with fail
  go_ret
  exact ⟨rfl, rfl⟩
set_option maxHeartbeats 4000000 in
set_option maxRecDepth 100000 in
theorem nil_fix (n : Int) (t : ByteArray) : Calls Tryd.prog 42 #[nilp, .int .i64 n, .string t] w fun e w' => e = .returned (.int .i64 1) ∧ w' = w := by
  go_enter Tryd.func42, Tryd.ntmps42
  go_wp2_with fail
  go_ret
  exact ⟨rfl, rfl⟩
set_option maxHeartbeats 4000000 in
set_option maxRecDepth 100000 in
theorem nil_break : Calls Tryd.prog 52 #[nilp] w fun e w' => e = .returned (.int .i64 1) ∧ w' = w := by
  go_enter Tryd.func52, Tryd.ntmps52
  go_wp2_with fail
  go_ret
  exact ⟨rfl, rfl⟩
set_option maxHeartbeats 4000000 in
set_option maxRecDepth 100000 in
theorem nil_flush : Calls Tryd.prog 53 #[nilp] w fun e w' => e = .returned (.int .i64 1) ∧ w' = w := by
  go_enter Tryd.func53, Tryd.ntmps53
  go_wp2_with fail
  go_ret
  exact ⟨rfl, rfl⟩
set_option maxHeartbeats 4000000 in
set_option maxRecDepth 100000 in
theorem nil_open : Calls Tryd.prog 39 #[nilp] w fun e w' => e = .returned (.slice none 0 0) ∧ w' = w := by
  go_enter Tryd.func39, Tryd.ntmps39
  go_wp2_with fail
  go_ret
  exact ⟨rfl, rfl⟩
set_option maxHeartbeats 4000000 in
set_option maxRecDepth 100000 in
theorem nil_said : Calls Tryd.prog 43 #[nilp] w fun e w' => e = .returned (.slice none 0 0) ∧ w' = w := by
  go_enter Tryd.func43, Tryd.ntmps43
  go_wp2_with fail
  go_ret
  exact ⟨rfl, rfl⟩
set_option maxHeartbeats 4000000 in
set_option maxRecDepth 100000 in
theorem nil_clone : Calls Tryd.prog 49 #[nilp] w fun e w' => e = .returned nilp ∧ w' = w := by
  go_enter Tryd.func49, Tryd.ntmps49
  go_wp2_with fail
  go_ret
  exact ⟨rfl, rfl⟩
set_option maxHeartbeats 4000000 in
set_option maxRecDepth 100000 in
theorem nil_peek : Calls Tryd.prog 51 #[nilp] w fun e w' => e = .returned (.tuple #[spkV default, .bool false]) ∧ Below w.heap.size w w' := by
  go_enter Tryd.func51, Tryd.ntmps51
  go_wp2_with fail
  go_quiet (fail)
  go_wp2_with fail
  go_returns
  exact ⟨rfl, (((below_dn (below1 _ (Nat.le_refl _)) _).setCell (Nat.le_refl _) _).setCell (Nat.le_refl _) _).setCell (Nat.le_refl _) _⟩
set_option maxHeartbeats 4000000 in
set_option maxRecDepth 100000 in
theorem nil_take : Calls Tryd.prog 41 #[nilp] w fun e w' => e = .returned (.tuple #[spkV default, .bool false]) ∧ Below w.heap.size w w' := by
  go_enter Tryd.func41, Tryd.ntmps41
  go_wp2_with fail
  refine (nil_peek _).mono ?_
  rintro e w1 ⟨rfl, hb1⟩
  have hb := (below1 (B := w.heap.size) (w := w) (.cells #[.string ⟨#[]⟩, .bool false, .bool false] 59) (Nat.le_refl _)).trans (hb1.mono (by simp))
  have hR := blk_stay (heap_alloc_new w (.cells #[.string ⟨#[]⟩, .bool false, .bool false] 59)) hb1
  have hlt1 : w.heap.size < w1.heap.size := heap_lt hR
  obtain ⟨r0, r1, r2, rf, rlt⟩ := blk3 hR
  clear hb1
  rw [spkV_ba]
  go_wp2_with fail
  refine post_as (fun W => Below w.heap.size w W ∧ W.heap[w.heap.size]? = some (.cells #[.string ⟨#[]⟩, .bool false, .bool false] 59 (0, 0))) ⟨(((hb.setCell (Nat.le_refl _) _).setCell (Nat.le_refl _) _).setCell (Nat.le_refl _) _).alloc (by simp; omega) _, blk_stay (set3 hR) (below1 _ (Nat.le_refl _))⟩ (fun W ⟨hbW, hRW⟩ => ?_)
  obtain ⟨s0, s1, s2, _, _⟩ := blk3 hRW
  refine bodyPost_ret (v := .tuple #[spkV default, .bool false]) (by simp [results, Tryd.results41, go_sem, s0, s1, s2]; rfl) rfl ?_
  exact ⟨rfl, hbW⟩
end
end Go.Proofs.YtheemefggkcfbaaDoor
