import Derived.Test.YtheemefggkcfbaaDoorR23
import Derived.IntWalk
namespace Go.Proofs.YtheemefggkcfbaaDoor
open Go Go.Lib Go.RowKit Go.Shelf
/-- The elements from the second on. -/
theorem RowR.tail3 {w : World} {n g off cap : Nat} {l : List Spk} (h : RowR w 3 (.slice (some ⟨g, off, none⟩) n cap) n (scells l)) (hn : 0 < n) : RowR w 3 (.slice (some ⟨g, off + 3, none⟩) (n - 1) (cap - 1)) (n - 1) (scells (l.drop 1)) := by
  obtain ⟨hl, h' | ⟨g', off', cap', e, hg, hc, hx⟩⟩ := h
  · cases h'.1
  · injection e with e1 _ e3
    injection e1 with e1
    injection e1 with e1 e2
    subst e1 e2 e3
    rw [scells_len] at hl
    refine ⟨by rw [scells_len, List.length_drop]; omega, Or.inr ⟨g, off + 3, cap - 1, rfl, hg, by omega, fun j u hu => ?_⟩⟩
    have e : (scells (l.drop 1)) = (scells l).drop 3 := by rw [show 3 = 1 * 3 by rfl, scells_drop]
    rw [e, List.getElem?_drop] at hu
    rw [Nat.add_assoc]
    exact hx _ u hu
theorem RowR.gone3 {w : World} {n g off cap : Nat} {l : List Spk} (h : RowR w 3 (.slice (some ⟨g, off, none⟩) n cap) n (scells l)) (hn : n = 1) : RowR w 3 (.slice (some ⟨g, off, none⟩) 0 0) 0 (scells (l.drop 1)) := by
  obtain ⟨hl, h' | ⟨g', off', cap', e, hg, hc, hx⟩⟩ := h
  · cases h'.1
  · injection e with e1 _ e3
    injection e1 with e1
    injection e1 with e1 e2
    subst e1 e2 e3
    rw [scells_len] at hl
    have e : l.drop 1 = [] := by rw [List.drop_eq_nil_iff]; omega
    rw [e]
    exact ⟨rfl, Or.inr ⟨g, off, 0, rfl, hg, Nat.le_refl _, fun j u hu => by simp [scells] at hu⟩⟩
theorem own_capR {w : World} {B e size n m c : Nat} {a : Option Addr} {xs : List Value} (h : w.ownsRow B e size (.slice a m c) n xs) : n ≤ c := by
  rcases h.2 with ⟨e, h0⟩ | ⟨g, cap, cur, e, hB, hh, hcap, _⟩
  · omega
  · injection e with _ _ e; omega
theorem spkV_ba (x : Spk) : spkV x = .agg #[.string (ba x.1), .bool x.2.1, .bool x.2.2] := rfl
theorem blk3 {w : World} {b : Nat} {a0 a1 a2 : Value} {E : TypeId} (h : w.heap[b]? = some (.cells #[a0, a1, a2] E (0, 0))) :
    w.cell? ⟨b, 0, none⟩ = some a0 ∧ w.cell? ⟨b, 1, none⟩ = some a1 ∧ w.cell? ⟨b, 2, none⟩ = some a2 ∧ (∀ o, w.frozen? ⟨b, o, none⟩ = false) ∧ b < w.heap.size := by
  refine ⟨?_, ?_, ?_, fun o => ?_, heap_lt h⟩
  all_goals simp [World.cell?, World.frozen?, h]
theorem set3 {w : World} {b : Nat} {p q r x y z : Value} {E : TypeId} (h : w.heap[b]? = some (.cells #[p, q, r] E (0, 0))) :
    (((w.setCell ⟨b, 0, none⟩ x).setCell ⟨b, 1, none⟩ y).setCell ⟨b, 2, none⟩ z).heap[b]? = some (.cells #[x, y, z] E (0, 0)) := blk_set (blk_set (blk_set h))
/-- What is known of the world at hand, said in words of one's own. -/
theorem world_as {P : Program} {c : Code} {Q : Exit → Act → World → Prop} {a : Act} {w : World} (F : World → Prop) (h : F w) (k : ∀ W, F W → c.wp P Q a W) : c.wp P Q a w := k w h
theorem post_as {P : Program} {fn : Func} {R : Ending → World → Prop} {e : Exit} {a : Act} {w : World} (F : World → Prop) (h : F w) (k : ∀ W, F W → bodyPost P fn R e a W) : bodyPost P fn R e a w := k w h
theorem RowR.own_lt {w : World} {B e s n k : Nat} {v : Value} {xs : List Value} (h : w.ownsRow B e s v n xs) (hk : v.ownBlock = some k) : k < w.heap.size := by
  rcases h.2 with ⟨rfl, _⟩ | ⟨g, cap, cur, rfl, _, hg, _⟩
  · cases hk
  · injection hk with e; subst e; exact heap_lt hg
theorem SpAt.tight {w : World} {O : Nat → Prop} {b : Nat} {S : Sp} (h : SpAt w O b S) : SpAt w (fun k => O k ∧ k < w.heap.size) b S := by
  obtain ⟨vo, vt, h1, h2, h3, h4, h5, h6⟩ := h
  exact ⟨vo, vt, h1, h2, h3, ⟨h4, heap_lt h1⟩, fun k hk => ⟨h5 k hk, (RowR.own_lt h2 hk)⟩, fun k hk => ⟨h6 k hk, (RowR.own_lt h3 hk)⟩⟩
theorem own_far {w : World} {B e s n k o : Nat} {v u : Value} {xs : List Value} (h : w.ownsRow B e s v n xs) (hk : v.ownBlock ≠ some k) : (w.setCell ⟨k, o, none⟩ u).ownsRow B e s v n xs := by
  refine ⟨h.1, ?_⟩
  rcases h.2 with h2 | ⟨g, cap, cur, rfl, hb, hg, rest⟩
  · exact Or.inl h2
  · refine Or.inr ⟨g, cap, cur, rfl, hb, ?_, rest⟩
    rw [heap_setCell_other w ⟨k, o, none⟩ g u (by intro e; exact hk (by rw [e]; rfl))]
    exact hg
theorem SpAt.far {w : World} {O : Nat → Prop} {b k o : Nat} {u : Value} {S : Sp} (h : SpAt w O b S) (hk : ¬ O k) : SpAt (w.setCell ⟨k, o, none⟩ u) O b S := by
  obtain ⟨vo, vt, h1, h2, h3, h4, h5, h6⟩ := h
  refine ⟨vo, vt, ?_, own_far h2 (fun e => hk (h5 k e)), own_far h3 (fun e => hk (h6 k e)), h4, h5, h6⟩
  rw [heap_setCell_other w ⟨k, o, none⟩ b u (by rintro rfl; exact hk h4)]
  exact h1
theorem Within.far {O : Nat → Prop} {a w : World} {k o : Nat} {u : Value} (h : Within O a w) (hk : a.heap.size ≤ k) : Within O a (w.setCell ⟨k, o, none⟩ u) :=
  ⟨h.os, h.tape, h.output, by simpa using h.size, fun j hj hn => by
    rw [heap_setCell_other w ⟨k, o, none⟩ j u (by intro e; subst e; exact absurd hj (by simp; omega))]
    exact h.block j hj hn⟩
theorem Within.weaken {O O' : Nat → Prop} {a w : World} (h : Within O a w) (hO : ∀ k, O k → O' k) : Within O' a w :=
  ⟨h.os, h.tape, h.output, h.size, fun k hk hn => h.block k hk (fun e => hn (hO k e))⟩
theorem Within.then_below {O : Nat → Prop} {a w w' : World} (h : Within O a w) (hb : Below w.heap.size w w') : Within O a w' :=
  h.trans (Within.of_below hb)
theorem own_base {w : World} {B e s n : Nat} {v : Value} {xs : List Value} (h : w.ownsRow B e s v n xs) : w.ownsRow 0 e s v n xs := by
  refine ⟨h.1, ?_⟩
  rcases h.2 with h2 | ⟨g, cap, cur, h2, _, rest⟩
  · exact Or.inl h2
  · exact Or.inr ⟨g, cap, cur, h2, Nat.zero_le _, rest⟩
theorem own_from {w : World} {B e s n k : Nat} {v : Value} {xs : List Value} (h : w.ownsRow B e s v n xs) (hk : v.ownBlock = some k) : B ≤ k := by
  rcases h.2 with ⟨rfl, _⟩ | ⟨g, cap, cur, rfl, hb, _⟩
  · cases hk
  · injection hk with e; subst e; exact hb
section
variable {w : World} {O : Nat → Prop} {b : Nat} {S : Sp}
theorem SpAt.setOpn {v : Value} {l : List Spk} (h : SpAt w O b S) (ho : w.ownsRow 0 59 3 v l.length (scells l)) (hv : ∀ k, v.ownBlock = some k → O k) : SpAt (w.setCell ⟨b, 1, none⟩ v) O b { S with opn := l } := by
  obtain ⟨vo, vt, h1, h2, h3, h4, h5, h6⟩ := h
  exact ⟨v, vt, blk_set h1, row_far (by decide) h1 ho, row_far (by decide) h1 h3, h4, hv, h6⟩
theorem SpAt.setTkn {v : Value} {l : List (List UInt8)} (h : SpAt w O b S) (ho : w.ownsRow 0 9 1 v l.length (wcells l)) (hv : ∀ k, v.ownBlock = some k → O k) : SpAt (w.setCell ⟨b, 4, none⟩ v) O b { S with tkn := l } := by
  obtain ⟨vo, vt, h1, h2, h3, h4, h5, h6⟩ := h
  exact ⟨vo, v, blk_set h1, row_far (by decide) h1 h2, row_far (by decide) h1 ho, h4, h5, hv⟩
theorem SpAt.setMark {m : Bool} (h : SpAt w O b S) : SpAt (w.setCell ⟨b, 2, none⟩ (.bool m)) O b { S with mark := m } := by
  obtain ⟨vo, vt, h1, h2, h3, h4, h5, h6⟩ := h
  exact ⟨vo, vt, blk_set h1, row_far (by decide) h1 h2, row_far (by decide) h1 h3, h4, h5, h6⟩
theorem SpAt.setFree {f : Nat} (h : SpAt w O b S) : SpAt (w.setCell ⟨b, 3, none⟩ (.int .i64 (f : Int))) O b { S with free := f } := by
  obtain ⟨vo, vt, h1, h2, h3, h4, h5, h6⟩ := h
  exact ⟨vo, vt, blk_set h1, row_far (by decide) h1 h2, row_far (by decide) h1 h3, h4, h5, h6⟩
theorem SpAt.own (h : SpAt w O b S) : O b := by
  obtain ⟨vo, vt, h1, h2, h3, h4, h5, h6⟩ := h
  exact h4
theorem blk3_far {k B o : Nat} {u p q r : Value} {E : TypeId} (h : w.heap[B]? = some (.cells #[p, q, r] E (0, 0))) (hk : k ≠ B) : (w.setCell ⟨k, o, none⟩ u).heap[B]? = some (.cells #[p, q, r] E (0, 0)) := by
  rw [heap_setCell_other w ⟨k, o, none⟩ B u (by intro e; exact hk (by rw [e]))]
  exact h
end
/-- Where Take stands: the speaker, the box of the result, the box of the word. -/
def tkO (w W : World) (O : Nat → Prop) (B : Nat) : Nat → Prop := fun k => (O k ∧ k < w.heap.size) ∨ (B < k ∧ k < W.heap.size)
def TkAt (w : World) (O : Nat → Prop) (b B : Nat) (X : Spk) (W : World) (S : Sp) : Prop :=
  SpAt W (tkO w W O B) b S ∧ W.heap[w.heap.size]? = some (.cells #[.string ⟨#[]⟩, .bool false, .bool false] 59 (0, 0)) ∧ W.heap[B]? = some (.cells #[.string (ba X.1), .bool X.2.1, .bool X.2.2] 59 (0, 0)) ∧ w.heap.size < B ∧ Within O w W ∧ (O b ∧ b < w.heap.size)
theorem tk_one {w W W2 : World} {O : Nat → Prop} {b B : Nat} {X : Spk} {S : Sp} {v4 : Value} (h : SpAt W (fun k => O k ∧ k < w.heap.size) b S) (hbW : Below w.heap.size w W) (hlt1 : w.heap.size < B) (hWB : B < W.heap.size)
    (hRW : W.heap[w.heap.size]? = some (.cells #[.string ⟨#[]⟩, .bool false, .bool false] 59 (0, 0))) (hXW : W.heap[B]? = some (.cells #[.string (ba X.1), .bool X.2.1, .bool X.2.2] 59 (0, 0))) (hb2 : Below W.heap.size W W2)
    (ho : W2.ownsRow W.heap.size 59 3 v4 (S.opn.drop 1).length (scells (S.opn.drop 1))) :
    TkAt w O b B X (W2.setCell ⟨b, 1, none⟩ v4) { S with opn := S.opn.drop 1 } := by
  have hb := h.own
  have hz := hb2.size
  have h2 : SpAt W2 (tkO w W2 O B) b S := (h.below hb2).weaken (fun k hk => Or.inl hk)
  have h3 := h2.setOpn (own_base ho) (fun k hk => Or.inr ⟨by have := own_from ho hk; omega, RowR.own_lt ho hk⟩)
  have hbl := hb.2
  refine ⟨?_, blk3_far (blk_stay hRW hb2) (by omega), blk3_far (blk_stay hXW hb2) (by omega), hlt1, (Within.of_below (hbW.trans (hb2.mono hbW.size))).set hb.1, hb⟩
  unfold tkO at h3 ⊢
  simpa using h3
section
variable {w W w5 : World} {O : Nat → Prop} {b B : Nat} {X : Spk} {S : Sp}
theorem TkAt.free {f : Nat} (h : TkAt w O b B X W S) : TkAt w O b B X (W.setCell ⟨b, 3, none⟩ (.int .i64 (f : Int))) { S with free := f } := by
  obtain ⟨h1, h2, h3, h4, h5, h6⟩ := h
  refine ⟨?_, blk3_far h2 (by omega), blk3_far h3 (by omega), h4, h5.set h6.1, h6⟩
  have := h1.setFree (f := f)
  unfold tkO at this ⊢
  simpa using this
theorem TkAt.mark {m : Bool} (h : TkAt w O b B X W S) : TkAt w O b B X (W.setCell ⟨b, 2, none⟩ (.bool m)) { S with mark := m } := by
  obtain ⟨h1, h2, h3, h4, h5, h6⟩ := h
  refine ⟨?_, blk3_far h2 (by omega), blk3_far h3 (by omega), h4, h5.set h6.1, h6⟩
  have := h1.setMark (m := m)
  unfold tkO at this ⊢
  simpa using this
theorem TkAt.fin {x y z : Value} (h : TkAt w O b B X W S) : SpAt (((W.setCell ⟨w.heap.size, 0, none⟩ x).setCell ⟨w.heap.size, 1, none⟩ y).setCell ⟨w.heap.size, 2, none⟩ z) (grow O w (((W.setCell ⟨w.heap.size, 0, none⟩ x).setCell ⟨w.heap.size, 1, none⟩ y).setCell ⟨w.heap.size, 2, none⟩ z)) b S ∧
    (((W.setCell ⟨w.heap.size, 0, none⟩ x).setCell ⟨w.heap.size, 1, none⟩ y).setCell ⟨w.heap.size, 2, none⟩ z).heap[w.heap.size]? = some (.cells #[x, y, z] 59 (0, 0)) ∧ Within O w (((W.setCell ⟨w.heap.size, 0, none⟩ x).setCell ⟨w.heap.size, 1, none⟩ y).setCell ⟨w.heap.size, 2, none⟩ z) := by
  obtain ⟨h1, h2, h3, h4, h5, h6⟩ := h
  have hn : ¬ tkO w W O B w.heap.size := by rintro (e | e) <;> omega
  refine ⟨(((h1.far hn).far hn).far hn).weaken (fun k hk => ?_), set3 h2, ((h5.far (Nat.le_refl _)).far (Nat.le_refl _)).far (Nat.le_refl _)⟩
  rcases hk with hk | hk
  · exact Or.inl hk.1
  · exact Or.inr ⟨by omega, by simpa using hk.2⟩
theorem TkAt.clone {v : Value} {l : List (List UInt8)} (h : TkAt w O b B X W S) (hb : Below W.heap.size W w5) (ho : w5.ownsRow W.heap.size 9 1 v l.length (wcells l)) : TkAt w O b B X (w5.setCell ⟨b, 4, none⟩ v) { S with tkn := l } := by
  obtain ⟨h1, h2, h3, h4, h5, h6⟩ := h
  have hz := hb.size
  have hB := heap_lt h3
  have h7 : SpAt w5 (tkO w w5 O B) b S := (h1.below hb).weaken (fun k hk => by
    rcases hk with hk | hk
    · exact Or.inl hk
    · exact Or.inr ⟨hk.1, by omega⟩)
  refine ⟨?_, blk3_far (blk_stay h2 hb) (by omega), blk3_far (blk_stay h3 hb) (by omega), h4, (h5.then_below hb).set h6.1, h6⟩
  have := h7.setTkn (own_base ho) (fun k hk => Or.inr ⟨by have := own_from ho hk; omega, RowR.own_lt ho hk⟩)
  unfold tkO at this ⊢
  simpa using this
theorem TkAt.app {vo vt : Value} {o : Obj} {g c : Nat} {l : List (List UInt8)} (h : TkAt w O b B X W S) (h1 : W.heap[b]? = some (.cells (spc S.hold vo S.mark S.free vt S.brk) 88 (0, 0)))
    (h2 : W.ownsRow 0 59 3 vo S.opn.length (scells S.opn)) (h3 : W.ownsRow 0 9 1 vt S.tkn.length (wcells S.tkn)) (h5 : ∀ k, vo.ownBlock = some k → tkO w W O B k) (h6 : ∀ k, vt.ownBlock = some k → tkO w W O B k)
    (hgrow : (W.alloc o).drew.grownBy w5 vt.ownBlock) (hat : vt.ownBlock = some g ∨ g = (W.alloc o).drew.heap.size) (hg : g < w5.heap.size) (ho : w5.ownsRow 0 9 1 (.slice (some ⟨g, 0, none⟩) l.length c) l.length (wcells l)) :
    TkAt w O b B X (w5.setCell ⟨b, 4, none⟩ (.slice (some ⟨g, 0, none⟩) l.length c)) { S with tkn := l } := by
  obtain ⟨_, k2, k3, k4, k5, k6⟩ := h
  have hbb : Below W.heap.size W (W.alloc o).drew := (below1 o (Nat.le_refl _)).drew
  have hz1 := hbb.size
  have hz2 := hgrow.size
  have hzd : (W.alloc o).drew.heap.size = W.heap.size + 1 := by simp
  have hB := heap_lt k3
  have hne : some b ≠ vt.ownBlock := fun e => blk_ne (by decide) h1 h3 e.symm
  have hn0 : some w.heap.size ≠ vt.ownBlock := fun e => by rcases h6 _ e.symm with q | q <;> omega
  have hnB : some B ≠ vt.ownBlock := fun e => by rcases h6 _ e.symm with q | q <;> omega
  have st : ∀ k, k < W.heap.size → some k ≠ vt.ownBlock → w5.heap[k]? = W.heap[k]? := fun k hk hn => (hgrow.block k (by omega) hn).trans (hbb.block k hk)
  have hO : ∀ k, tkO w W O B k → tkO w w5 O B k := fun k hk => by
    rcases hk with hk | hk
    · exact Or.inl hk
    · exact Or.inr ⟨hk.1, by omega⟩
  have hlb := heap_lt h1
  have hb5 : w5.heap[b]? = some (.cells (spc S.hold vo S.mark S.free vt S.brk) 88 (0, 0)) := (st b hlb hne).trans h1
  have ho5 : w5.ownsRow 0 59 3 vo S.opn.length (scells S.opn) := (own_stays h2 hbb).kept hgrow (rows_apart (by decide) (own_stays h3 hbb) (own_stays h2 hbb))
  have hW5 : Within O w w5 := ⟨by rw [hgrow.os, hbb.os, k5.os], by rw [hgrow.tape, hbb.tape, k5.tape], by rw [hgrow.output, hbb.output, k5.output], by have := k5.size; omega, fun k hk hn => by
    have := k5.size
    rw [st k (by omega) (fun e => by rcases h6 _ e.symm with q | q; exact hn q.1; omega), k5.block k hk hn]⟩
  refine ⟨⟨vo, _, blk_set hb5, row_far (by decide) hb5 ho5, row_far (by decide) hb5 ho, Or.inl k6, fun k hk => ?_, fun k hk => ?_⟩, blk3_far ((st _ (by omega) hn0).trans k2) (by omega), blk3_far ((st _ hB hnB).trans k3) (by omega), k4, hW5.set k6.1, k6⟩
  · have := hO k (h5 k hk)
    unfold tkO at this ⊢
    simpa using this
  · injection hk with e
    subst e
    rcases hat with e | e
    · have := hO _ (h6 _ e)
      unfold tkO at this ⊢
      simpa using this
    · right
      simp at *
      omega
end
set_option maxHeartbeats 8000000 in
set_option maxRecDepth 100000 in
theorem take_any (w : World) (O : Nat → Prop) (b : Nat) (S : Sp) (h : SpAt w O b S) (hS : S.ok) :
    Calls Tryd.prog 41 #[ptr b] w fun e w' => e = .returned (.tuple #[spkV S.peek, .bool S.can]) ∧ SpAt w' (grow O w w') b S.take ∧ Within O w w' := by
  have Hn := Lib.hid (@take_none S)
  have Hm := Lib.hid (@take_mark S)
  have Hw := Lib.hid (@take_word S)
  have Hl := Lib.hid (@can_len S)
  have HT := Lib.hid h
  have HS := Lib.hid hS
  clear h hS
  go_enter Tryd.func41, Tryd.ntmps41
  go_wp2_with fail
  refine (peek_any _ O b S (HT.out.below (below1 _ (Nat.le_refl _))) HS.out).mono ?_
  rintro e w1 ⟨rfl, hb1⟩
  have hb := (below1 (B := w.heap.size) (w := w) (.cells #[.string ⟨#[]⟩, .bool false, .bool false] 59) (Nat.le_refl _)).trans (hb1.mono (by simp))
  have hR := blk_stay (heap_alloc_new w (.cells #[.string ⟨#[]⟩, .bool false, .bool false] 59)) hb1
  have hlt1 : w.heap.size < w1.heap.size := heap_lt hR
  rw [spkV_ba]
  rcases Bool.eq_false_or_eq_true S.can with hcan | hcan
  · have hl := Hl.out hcan
    have HS8 : Hid (S.opn.length ≤ 400 ∧ S.free ≤ S.opn.length ∧ S.tkn.length ≤ 8) := Lib.hid ⟨HS.out.len, HS.out.free, HS.out.tkn⟩
    have HC := Lib.hid hcan
    have Hm2 := Lib.hid (Hm.out hcan)
    have Hw2 := Lib.hid (Hw.out hcan)
    rw [hcan]
    clear hcan Hn Hm Hw Hl
    generalize hX' : S.peek = X
    have hX := Lib.hid hX'
    have HN : Hid (S.peek.1 = X.1) := Lib.hid (by rw [hX'])
    clear hX'
    go_upto_region 4 with fail
    refine world_as (fun W => Below w.heap.size w W ∧ W.heap[w.heap.size]? = some (.cells #[.string ⟨#[]⟩, .bool false, .bool false] 59 (0, 0)) ∧ W.heap[w1.heap.size]? = some (.cells #[.string (ba X.1), .bool X.2.1, .bool X.2.2] 59 (0, 0)))
      ⟨hb.alloc (by omega) _, blk_stay hR (below1 _ (Nat.le_refl _)), heap_alloc_new w1 _⟩ ?_
    rintro W ⟨hbW, hRW, hXW⟩
    have hWB : w1.heap.size < W.heap.size := heap_lt hXW
    clear hb hR hb1
    generalize w1.heap.size = B at *
    clear w1
    go_cut [] (fun wx => TkAt w O b B X wx { S with opn := S.opn.drop 1 })
    case first =>
      have HA := Lib.hid (HT.out.tight.below hbW)
      obtain ⟨vo, vt, h1, h2, h3, h4, h5, h6⟩ := HA.out
      obtain ⟨g, co, rfl, _, hg⟩ := h2.form hl
      have hRo := RowR.of_own h2
      have hcap : S.opn.length ≤ co := own_capR h2
      have hn4 := HS8.out.1
      have cl : ∀ a' c', RowR W 3 (.slice a' (S.opn.length - 1) c') (S.opn.length - 1) (scells (S.opn.drop 1)) → Calls Tryd.prog 75 #[.slice a' (S.opn.length - 1) c'] W (Made W.heap.size 59 3 (S.opn.length - 1) (scells (S.opn.drop 1)) W) := fun a' c' hr => clone59 W _ _ _ hr (one_scells _) (by omega)
      have HD : Hid ((S.opn.drop 1).length = S.opn.length - 1) := Lib.hid (List.length_drop ..)
      have HO : Hid (∀ v4 W2, Below W.heap.size W W2 → W2.ownsRow W.heap.size 59 3 v4 (S.opn.length - 1) (scells (S.opn.drop 1)) → TkAt w O b B X (W2.setCell ⟨b, 1, none⟩ v4) { S with opn := S.opn.drop 1 }) :=
        Lib.hid (fun v4 W2 hb2 ho2 => tk_one HA.out hbW hlt1 hWB hRW hXW hb2 (by rw [HD.out]; exact ho2))
      have HB := Lib.hid h1
      obtain ⟨c0, c1, c2, c3, c4, c5, hf, hlt⟩ := blk_facts h1
      clear h1 h3 h4 h5 h6 hRW hXW HA HD c0 c2 c3 c4 c5 hf hlt
      generalize S.opn.length = N at *
      have hq : (1 : Int) ≤ (N : Int) := by omega
      by_cases h1c : co = 1
      case' pos =>
        have hn1 : N = 1 := by omega
        have hr := RowR.gone3 hRo hn1
        subst hn1 h1c
        have cl1 := cl _ _ hr
        clear cl h2 hRo hr hl hcap
        go_wp2_with fail
      case' neg =>
        have hr := RowR.tail3 hRo hl
        have cl1 := cl _ _ hr
        clear cl h2 hRo hr hl
        go_wp2_with fail
      all_goals
        refine cl1.mono ?_
        rintro e W2 ⟨v4, rfl, ho4, hb4⟩
        obtain ⟨a4, e4, rfl⟩ := own_len ho4
        have hT := Lib.hid (HO.out _ W2 hb4 ho4)
        clear HO cl1 ho4 c1
        obtain ⟨c0, c1, c2, c3, c4, c5, hf, hlt⟩ := blk_facts (blk_stay HB.out hb4)
        go_wp2_with fail
        go_meet
        exact hT.out
    case rest =>
      clear hRW hXW
      have hz0 : S.free ≤ 400 := by have := HS8.out; omega
      have HFr : Hid (max (S.free : Int) 1 - 1 = ((S.free - 1 : Nat) : Int)) := Lib.hid (by omega)
      obtain ⟨⟨vo, vt, h1, h2, h3, h4, h5, h6⟩, hR, hXB, hwB, hWi, hOb⟩ := hcut
      have HT2 : Hid (TkAt w O b B X wc { S with opn := S.opn.drop 1 }) := Lib.hid ⟨⟨vo, vt, h1, h2, h3, h4, h5, h6⟩, hR, hXB, hwB, hWi, hOb⟩
      have n1 : b ≠ B := by have := hOb.2; omega
      have n2 : B ≠ b := n1.symm
      have n3 : b ≠ w.heap.size := by have := hOb.2; omega
      have n4 : w.heap.size ≠ b := n3.symm
      obtain ⟨c0, c1, c2, c3, c4, c5, hf, hlt⟩ := blk_facts h1
      dsimp only at c0 c1 c2 c3 c4 c5
      clear hWi hOb h1 h2 h3 h4 h5 h6 hR hXB c0 c1 c2 c4 c5
      go_upto_region 6 with fail
      refine world_as (fun W3 => TkAt w O b B X W3 { S with opn := S.opn.drop 1, free := S.free - 1 }) (by have h := HT2.out.free (f := S.free - 1); rw [← HFr.out] at h; exact h) ?_
      clear HT2 c3 hf hlt HFr
      intro W3 hT3
      have HT3 := Lib.hid hT3
      obtain ⟨⟨vo, vt, h1, h2, h3, h4, h5, h6⟩, hR, hXB, _, hWi, hOb⟩ := hT3
      clear hWi hOb h4 hz0
      obtain ⟨c0, c1, c2, c3, c4, c5, hf, hlt⟩ := blk_facts h1
      obtain ⟨r0, r1, r2, rf, rlt⟩ := blk3 hR
      obtain ⟨x0, x1, x2, xf, xlt⟩ := blk3 hXB
      dsimp only at c0 c1 c2 c3 c4 c5
      have HM : Hid (S.mark = true ∨ S.mark = false) := Lib.hid (by cases S.mark <;> simp)
      rcases HM.out with hm | hm
      · have E1 := Lib.hid (Hm2.out hm)
        rw [hm] at c2
        clear hm HM Hm2 Hw2 h1 h2 h3 h5 h6
        go_wp2_with fail
        refine post_as (fun W4 => SpAt W4 (grow O w W4) b S.take ∧ W4.heap[w.heap.size]? = some (.cells #[.string (ba X.1), .bool X.2.1, .bool X.2.2] 59 (0, 0)) ∧ Within O w W4) (by rw [E1.out.1]; exact (HT3.out.mark (m := false)).fin) (fun W4 ⟨q1, q2, q3⟩ => ?_)
        obtain ⟨s0, s1, s2, _, _⟩ := blk3 q2
        refine bodyPost_ret (v := .tuple #[spkV X, .bool true]) (by simp [results, Tryd.results41, go_sem, s0, s1, s2]; rfl) rfl ?_
        rw [hX.out, HC.out]
        exact ⟨rfl, q1, q3⟩
      · have E1 := Lib.hid (Hw2.out hm)
        have HM2 := Lib.hid hm
        rw [hm] at c2
        clear hm HM Hm2 Hw2
        go_upto_region 9 with fail
        clear c0 c1 c2 c3 c5 r0 r1 r2 rf rlt x1 x2 xf
        go_cut [] (fun wx => TkAt w O b B X wx { S with opn := S.opn.drop 1, free := S.free - 1, tkn := S.tkn ++ [X.1] })
        case first =>
          obtain ⟨at4, ct4, rfl⟩ := own_len h3
          have ht8 := HS8.out.2.2
          have HH : Hid (_ ∧ _ ∧ _ ∧ _ ∧ _) := Lib.hid ⟨h1, h2, h3, h5, h6⟩
          have hne0 : some b ≠ (Value.slice at4 S.tkn.length ct4).ownBlock := fun e => blk_ne (by decide) h1 h3 e.symm
          have hneB : some B ≠ (Value.slice at4 S.tkn.length ct4).ownBlock := fun e => by rcases h6 _ e.symm with q | q <;> omega
          clear h1 h2 h5 h6 hR hXB
          obtain ⟨i0, hi, iz0, iz1, iz2⟩ := info_parts info9
          have hk1 := (below1 (B := W3.heap.size) (w := W3) (.cells #[.string (ba X.1)] 9) (Nat.le_refl _)).cell (p := ⟨b, 4, none⟩) hlt
          have hk2 := (below1 (B := W3.heap.size) (w := W3) (.cells #[.string (ba X.1)] 9) (Nat.le_refl _)).cell (p := ⟨B, 0, none⟩) xlt
          have hk3 := (below1 (B := W3.heap.size) (w := W3) (.cells #[.string (ba X.1)] 9) (Nat.le_refl _)).frozen (p := ⟨b, 4, none⟩) hlt
          rw [c4] at hk1
          rw [x0] at hk2
          have hf4' := hf 4
          rw [hf4'] at hk3
          refine wp_region_tail 9 (S := (fun w' => w'.cell? ⟨b, 4, none⟩ = some (.slice at4 S.tkn.length ct4) ∧ w'.cell? ⟨B, 0, none⟩ = some (.string (ba X.1)) ∧ w'.frozen? ⟨b, 4, none⟩ = false)) (by kernel_rfl) ⟨c4, x0, hf4'⟩ (fun hHeld => ?_)
          simp only [List.size_toArray, List.length_cons, List.length_nil, Nat.zero_add, Nat.reduceAdd]
          refine wpAnyT_take (i := 0) (oi := { dst := some 40, op := Go.Op.move (Go.Operand.tmp 0), type := 48, pos := "respeak.go:167", after := #[], guard := none }) (v := ?_) rfl (by kernel_rfl) (by kernel_rfl) (by kernel_rfl) (by kernel_rfl) (fun _ _ _ h => h) (Or.inl ⟨by rfl, ?_⟩) (by assumption) ?_
          rotate_left
          · intro w hSw
            (try dsimp only at hSw)
            go_simp
            all_goals (with_reducible rfl)
          try simp only [Act.put, List.setIfInBounds_toArray, List.set_cons_zero, List.set_cons_succ]
          refine wpAnyT_take (i := 1) (oi := { dst := some 41, op := Go.Op.move (Go.Operand.tmp 0), type := 48, pos := "respeak.go:167", after := #[], guard := none }) (v := ?_) rfl (by kernel_rfl) (by kernel_rfl) (by kernel_rfl) (by kernel_rfl) (fun _ _ _ h => h) (Or.inl ⟨by rfl, ?_⟩) (by assumption) ?_
          rotate_left
          · intro w hSw
            (try dsimp only at hSw)
            go_simp
            all_goals (with_reducible rfl)
          try simp only [Act.put, List.setIfInBounds_toArray, List.set_cons_zero, List.set_cons_succ]
          refine wpAnyT_take (i := 2) (oi := { dst := some 42, op := Go.Op.nilCheck (Go.Operand.tmp 41), type := 0, pos := "respeak.go:167", after := #[{ on := 1, ground := Go.Ground.data }], guard := none }) (v := ?_) rfl (by kernel_rfl) (by kernel_rfl) (by kernel_rfl) (by kernel_rfl) (fun _ _ _ h => h) (Or.inl ⟨by rfl, ?_⟩) (by assumption) ?_
          rotate_left
          · intro w hSw
            (try dsimp only at hSw)
            go_simp
            all_goals (with_reducible rfl)
          try simp only [Act.put, List.setIfInBounds_toArray, List.set_cons_zero, List.set_cons_succ]
          refine wpAnyT_take (i := 3) (oi := { dst := some 43, op := Go.Op.fieldAddr 88 (Go.Operand.tmp 42) 4, type := 0, pos := "respeak.go:167", after := #[{ on := 2, ground := Go.Ground.data }], guard := none }) (v := ?_) rfl (by kernel_rfl) (by kernel_rfl) (by kernel_rfl) (by kernel_rfl) (fun _ _ _ h => h) (Or.inl ⟨by rfl, ?_⟩) (by assumption) ?_
          rotate_left
          · intro w hSw
            (try dsimp only at hSw)
            go_simp
            all_goals (with_reducible rfl)
          try simp only [Act.put, List.setIfInBounds_toArray, List.set_cons_zero, List.set_cons_succ]
          refine wpAnyT_take (i := 4) (oi := { dst := some 44, op := Go.Op.load 42 (Go.Operand.tmp 43), type := 42, pos := "respeak.go:167", after := #[{ on := 3, ground := Go.Ground.data }], guard := none }) (v := ?_) rfl (by kernel_rfl) (by kernel_rfl) (by kernel_rfl) (by kernel_rfl) (fun _ _ _ h => h) (Or.inl ⟨by rfl, ?_⟩) (by assumption) ?_
          rotate_left
          · intro w hSw
            (try dsimp only at hSw)
            go_simp
            all_goals (with_reducible rfl)
          try simp only [Act.put, List.setIfInBounds_toArray, List.set_cons_zero, List.set_cons_succ]
          refine wpAnyT_take (i := 5) (oi := { dst := some 45, op := Go.Op.fieldAddr 59 (Go.Operand.tmp 4) 0, type := 0, pos := "respeak.go:167", after := #[], guard := none }) (v := ?_) rfl (by kernel_rfl) (by kernel_rfl) (by kernel_rfl) (by kernel_rfl) (fun _ _ _ h => h) (Or.inl ⟨by rfl, ?_⟩) (by assumption) ?_
          rotate_left
          · intro w hSw
            (try dsimp only at hSw)
            go_simp
            all_goals (with_reducible rfl)
          try simp only [Act.put, List.setIfInBounds_toArray, List.set_cons_zero, List.set_cons_succ]
          refine wpAnyT_take (i := 6) (oi := { dst := some 46, op := Go.Op.load 9 (Go.Operand.tmp 45), type := 9, pos := "respeak.go:167", after := #[{ on := 5, ground := Go.Ground.data }], guard := none }) (v := ?_) rfl (by kernel_rfl) (by kernel_rfl) (by kernel_rfl) (by kernel_rfl) (fun _ _ _ h => h) (Or.inl ⟨by rfl, ?_⟩) (by assumption) ?_
          rotate_left
          · intro w hSw
            (try dsimp only at hSw)
            go_simp
            all_goals (with_reducible rfl)
          try simp only [Act.put, List.setIfInBounds_toArray, List.set_cons_zero, List.set_cons_succ]
          refine wpAnyT_one (i := 7) (o := { dst := some 47, op := Go.Op.buildSlice 42 1 #[(0, Go.Operand.tmp 46)], type := 42, pos := "respeak.go:167", after := #[{ on := 6, ground := Go.Ground.data }], guard := none }) (by kernel_rfl) rfl (fun K hK => ?_)
          go_simp
          refine hK.out _ _ ⟨hk1, hk2, hk3⟩ (fun hHeld => ?_)
          clear hK K
          try simp only [Act.put, List.setIfInBounds_toArray, List.set_cons_zero, List.set_cons_succ]
          refine wpAnyT_one (i := 8) (o := { dst := some 48, op := Go.Op.call { callee := Go.Callee.builtin Go.Builtin.append, args := #[Go.Operand.tmp 44, Go.Operand.tmp 47], argTypes := #[42, 42] }, type := 42, pos := "respeak.go:167", after := #[{ on := 4, ground := Go.Ground.data }, { on := 7, ground := Go.Ground.data }], guard := none }) (by kernel_rfl) rfl (fun K hK => ?_)
          refine step_append_lies _ (by rfl) _ _ _ (by rfl) 0 9 i0 _ 1 16 Tryd.underlying42 hi iz0 iz1 iz2 rfl (by omega) (.slice at4 S.tkn.length ct4) S.tkn.length (wcells S.tkn) (by rfl) ((h3.alloc _).drew) ⟨W3.heap.size, 0, none⟩ 1 1 [.string (ba X.1)] (by rfl) (by rfl) (World.news_of_block (cs := #[.string (ba X.1)]) (t := 9) (fr := (0, 0)) (heap_alloc_new W3 _)) (by simp [Value.oneCell']) (by omega) (by unfold maxLen; omega) (by omega) (by simp) (W3.heap.size + 1) (by simp) ?_
          intro gg cap w1 hown1 hgrow hat hltg
          refine hK.out _ _ ⟨(hgrow.cell_far ⟨b, 4, none⟩ (by simp; omega) hne0).trans hk1, (hgrow.cell_far ⟨B, 0, none⟩ (by simp; omega) hneB).trans hk2, (hgrow.frozen_far ⟨b, 4, none⟩ (by simp; omega) hne0).trans hk3⟩ (fun hHeld => ?_)
          clear hK K
          try simp only [Act.put, List.setIfInBounds_toArray, List.set_cons_zero, List.set_cons_succ]
          refine wpAnyT_last (i := 9) (o := { dst := some 49, op := Go.Op.nilCheck (Go.Operand.tmp 40), type := 0, pos := "respeak.go:167", after := #[{ on := 0, ground := Go.Ground.data }, { on := 0, ground := Go.Ground.phase }, { on := 1, ground := Go.Ground.phase }, { on := 2, ground := Go.Ground.phase }, { on := 3, ground := Go.Ground.phase }, { on := 4, ground := Go.Ground.phase }, { on := 5, ground := Go.Ground.phase }, { on := 6, ground := Go.Ground.phase }, { on := 7, ground := Go.Ground.phase }, { on := 8, ground := Go.Ground.phase }], guard := none }) (by kernel_rfl) rfl (by decide) (fun K hK => ?_)
          go_simp
          refine hK.out _ _ ?_
          clear hK K
          try simp only [Act.put, List.setIfInBounds_toArray, List.set_cons_zero, List.set_cons_succ]
          refine wpAnyT_last (i := 10) (o := { dst := some 50, op := Go.Op.fieldAddr 88 (Go.Operand.tmp 49) 4, type := 0, pos := "respeak.go:167", after := #[{ on := 9, ground := Go.Ground.data }, { on := 0, ground := Go.Ground.phase }, { on := 1, ground := Go.Ground.phase }, { on := 2, ground := Go.Ground.phase }, { on := 3, ground := Go.Ground.phase }, { on := 4, ground := Go.Ground.phase }, { on := 5, ground := Go.Ground.phase }, { on := 6, ground := Go.Ground.phase }, { on := 7, ground := Go.Ground.phase }, { on := 8, ground := Go.Ground.phase }], guard := none }) (by kernel_rfl) rfl (by decide) (fun K hK => ?_)
          go_simp
          refine hK.out _ _ ?_
          clear hK K
          try simp only [Act.put, List.setIfInBounds_toArray, List.set_cons_zero, List.set_cons_succ]
          refine wpAnyT_last (i := 11) (o := { dst := none, op := Go.Op.store 42 (Go.Operand.tmp 50) (Go.Operand.tmp 48), type := 0, pos := "respeak.go:167", after := #[{ on := 10, ground := Go.Ground.data }, { on := 8, ground := Go.Ground.data }, { on := 8, ground := Go.Ground.chain }, { on := 0, ground := Go.Ground.phase }, { on := 1, ground := Go.Ground.phase }, { on := 2, ground := Go.Ground.phase }, { on := 3, ground := Go.Ground.phase }, { on := 4, ground := Go.Ground.phase }, { on := 5, ground := Go.Ground.phase }, { on := 6, ground := Go.Ground.phase }, { on := 7, ground := Go.Ground.phase }, { on := 8, ground := Go.Ground.phase }], guard := none }) (by kernel_rfl) rfl (by decide) (fun K hK => ?_)
          go_simp
          refine hK.out _ _ ?_
          clear hK K
          try simp only [Act.put, List.setIfInBounds_toArray, List.set_cons_zero, List.set_cons_succ]
          refine wpAnyT_done (by kernel_rfl) ?_ _
          go_wp2_with fail
          go_meet
          have hl : (S.tkn ++ [X.1]).length = S.tkn.length + 1 := by simp
          have q := HT3.out.app (l := S.tkn ++ [X.1]) HH.out.1 HH.out.2.1 HH.out.2.2.1 HH.out.2.2.2.1 HH.out.2.2.2.2 hgrow (by simpa using hat) hltg (by rw [hl]; simpa [wcells, strV_ba] using hown1)
          rw [hl] at q
          exact q
        case rest =>
          clear h1 h2 h3 h5 h6 hR hXB c4 hf hlt x0 xlt HT3
          have HT4 := Lib.hid hcut
          obtain ⟨⟨vo, vt, h1, h2, h3, h4, h5, h6⟩, hR, hXB, _, hWi, hOb⟩ := hcut
          dsimp only at h1 h2 h3
          clear hWi hOb h4 h5 h6 h2 hR hXB
          generalize wc = W4 at *
          go_upto_region 10 with fail
          go_cut [] (fun wx => TkAt w O b B X wx { S with opn := S.opn.drop 1, free := S.free - 1, tkn := last8 (S.tkn ++ [X.1]) })
          case first =>
            have ht8 := HS8.out.2.2
            have hl1 : 1 ≤ (S.tkn ++ [X.1]).length := by rw [List.length_append]; show 1 ≤ _ + 1; omega
            have hl9 : (S.tkn ++ [X.1]).length ≤ 9 := by rw [List.length_append]; show _ + 1 ≤ 9; omega
            generalize S.tkn ++ [X.1] = T1 at *
            have HL : Hid (last8 T1 = T1.drop (T1.length - 8)) := Lib.hid rfl
            obtain ⟨g9, c9, rfl, _, hg9⟩ := h3.form hl1
            have hR9 := RowR.of_own h3
            have hcap9 := own_capR h3
            obtain ⟨c0, c1, c2, c3, c4, c5, hf, hlt⟩ := blk_facts h1
            have hf4' := hf 4
            clear h3 h1 c0 c1 c2 c3 c5 hf
            have hc9 : ¬ c9 = 0 := by omega
            by_cases h89 : T1.length ≤ 8
            · have hz : max ((T1.length : Int) - 8) 0 = 0 := by omega
              have hx0 : T1.length - 8 = 0 := by omega
              rw [hx0, List.drop_zero] at HL
              clear hx0
              have hw8 : IntKind.i64.wrap ((T1.length : Int) - 8) = (T1.length : Int) - 8 := IntWalk.i64_in _ (by omega)
              refine wp_region_tail 14 (S := (fun w' => w'.cell? ⟨b, 4, none⟩ = some (.slice (some ⟨g9, 0, none⟩) T1.length c9) ∧ w'.frozen? ⟨b, 4, none⟩ = false)) (by kernel_rfl) ⟨c4, hf4'⟩ (fun hHeld => ?_)
              simp only [List.size_toArray, List.length_cons, List.length_nil, Nat.zero_add, Nat.reduceAdd]
              refine wpAnyT_take (i := 0) (oi := { dst := some 51, op := Go.Op.move (Go.Operand.tmp 0), type := 48, pos := "respeak.go:168", after := #[], guard := none }) (v := ?_) rfl (by kernel_rfl) (by kernel_rfl) (by kernel_rfl) (by kernel_rfl) (fun _ _ _ h => h) (Or.inl ⟨by rfl, ?_⟩) (by assumption) ?_
              rotate_left
              · intro w hSw
                (try dsimp only at hSw)
                go_simp
                all_goals (with_reducible rfl)
              try simp only [Act.put, List.setIfInBounds_toArray, List.set_cons_zero, List.set_cons_succ]
              refine wpAnyT_take (i := 1) (oi := { dst := some 52, op := Go.Op.move (Go.Operand.tmp 0), type := 48, pos := "respeak.go:168", after := #[], guard := none }) (v := ?_) rfl (by kernel_rfl) (by kernel_rfl) (by kernel_rfl) (by kernel_rfl) (fun _ _ _ h => h) (Or.inl ⟨by rfl, ?_⟩) (by assumption) ?_
              rotate_left
              · intro w hSw
                (try dsimp only at hSw)
                go_simp
                all_goals (with_reducible rfl)
              try simp only [Act.put, List.setIfInBounds_toArray, List.set_cons_zero, List.set_cons_succ]
              refine wpAnyT_take (i := 2) (oi := { dst := some 53, op := Go.Op.nilCheck (Go.Operand.tmp 52), type := 0, pos := "respeak.go:168", after := #[{ on := 1, ground := Go.Ground.data }], guard := none }) (v := ?_) rfl (by kernel_rfl) (by kernel_rfl) (by kernel_rfl) (by kernel_rfl) (fun _ _ _ h => h) (Or.inl ⟨by rfl, ?_⟩) (by assumption) ?_
              rotate_left
              · intro w hSw
                (try dsimp only at hSw)
                go_simp
                all_goals (with_reducible rfl)
              try simp only [Act.put, List.setIfInBounds_toArray, List.set_cons_zero, List.set_cons_succ]
              refine wpAnyT_take (i := 3) (oi := { dst := some 54, op := Go.Op.fieldAddr 88 (Go.Operand.tmp 53) 4, type := 0, pos := "respeak.go:168", after := #[{ on := 2, ground := Go.Ground.data }], guard := none }) (v := ?_) rfl (by kernel_rfl) (by kernel_rfl) (by kernel_rfl) (by kernel_rfl) (fun _ _ _ h => h) (Or.inl ⟨by rfl, ?_⟩) (by assumption) ?_
              rotate_left
              · intro w hSw
                (try dsimp only at hSw)
                go_simp
                all_goals (with_reducible rfl)
              try simp only [Act.put, List.setIfInBounds_toArray, List.set_cons_zero, List.set_cons_succ]
              refine wpAnyT_take (i := 4) (oi := { dst := some 55, op := Go.Op.load 42 (Go.Operand.tmp 54), type := 42, pos := "respeak.go:168", after := #[{ on := 3, ground := Go.Ground.data }], guard := none }) (v := ?_) rfl (by kernel_rfl) (by kernel_rfl) (by kernel_rfl) (by kernel_rfl) (fun _ _ _ h => h) (Or.inl ⟨by rfl, ?_⟩) (by assumption) ?_
              rotate_left
              · intro w hSw
                (try dsimp only at hSw)
                go_simp
                all_goals (with_reducible rfl)
              try simp only [Act.put, List.setIfInBounds_toArray, List.set_cons_zero, List.set_cons_succ]
              refine wpAnyT_take (i := 5) (oi := { dst := some 56, op := Go.Op.move (Go.Operand.tmp 0), type := 48, pos := "respeak.go:168", after := #[], guard := none }) (v := ?_) rfl (by kernel_rfl) (by kernel_rfl) (by kernel_rfl) (by kernel_rfl) (fun _ _ _ h => h) (Or.inl ⟨by rfl, ?_⟩) (by assumption) ?_
              rotate_left
              · intro w hSw
                (try dsimp only at hSw)
                go_simp
                all_goals (with_reducible rfl)
              try simp only [Act.put, List.setIfInBounds_toArray, List.set_cons_zero, List.set_cons_succ]
              refine wpAnyT_take (i := 6) (oi := { dst := some 57, op := Go.Op.nilCheck (Go.Operand.tmp 56), type := 0, pos := "respeak.go:168", after := #[{ on := 5, ground := Go.Ground.data }], guard := none }) (v := ?_) rfl (by kernel_rfl) (by kernel_rfl) (by kernel_rfl) (by kernel_rfl) (fun _ _ _ h => h) (Or.inl ⟨by rfl, ?_⟩) (by assumption) ?_
              rotate_left
              · intro w hSw
                (try dsimp only at hSw)
                go_simp
                all_goals (with_reducible rfl)
              try simp only [Act.put, List.setIfInBounds_toArray, List.set_cons_zero, List.set_cons_succ]
              refine wpAnyT_take (i := 7) (oi := { dst := some 58, op := Go.Op.fieldAddr 88 (Go.Operand.tmp 57) 4, type := 0, pos := "respeak.go:168", after := #[{ on := 6, ground := Go.Ground.data }], guard := none }) (v := ?_) rfl (by kernel_rfl) (by kernel_rfl) (by kernel_rfl) (by kernel_rfl) (fun _ _ _ h => h) (Or.inl ⟨by rfl, ?_⟩) (by assumption) ?_
              rotate_left
              · intro w hSw
                (try dsimp only at hSw)
                go_simp
                all_goals (with_reducible rfl)
              try simp only [Act.put, List.setIfInBounds_toArray, List.set_cons_zero, List.set_cons_succ]
              refine wpAnyT_take (i := 8) (oi := { dst := some 59, op := Go.Op.load 42 (Go.Operand.tmp 58), type := 42, pos := "respeak.go:168", after := #[{ on := 7, ground := Go.Ground.data }], guard := none }) (v := ?_) rfl (by kernel_rfl) (by kernel_rfl) (by kernel_rfl) (by kernel_rfl) (fun _ _ _ h => h) (Or.inl ⟨by rfl, ?_⟩) (by assumption) ?_
              rotate_left
              · intro w hSw
                (try dsimp only at hSw)
                go_simp
                all_goals (with_reducible rfl)
              try simp only [Act.put, List.setIfInBounds_toArray, List.set_cons_zero, List.set_cons_succ]
              refine wpAnyT_take (i := 9) (oi := { dst := some 60, op := Go.Op.call { callee := Go.Callee.builtin Go.Builtin.len, args := #[Go.Operand.tmp 59], argTypes := #[42] }, type := 3, pos := "respeak.go:168", after := #[{ on := 8, ground := Go.Ground.data }], guard := none }) (v := ?_) rfl (by kernel_rfl) (by kernel_rfl) (by kernel_rfl) (by kernel_rfl) (fun _ _ _ h => h) (Or.inl ⟨by rfl, ?_⟩) (by assumption) ?_
              rotate_left
              · intro w hSw
                (try dsimp only at hSw)
                go_simp
                all_goals (with_reducible rfl)
              try simp only [Act.put, List.setIfInBounds_toArray, List.set_cons_zero, List.set_cons_succ]
              refine wpAnyT_take (i := 10) (oi := { dst := some 61, op := Go.Op.binOp Go.BinOp.sub 3 (Go.Operand.tmp 60) (Go.Operand.const (Go.Value.int Go.IntKind.i64 8)) 3, type := 3, pos := "respeak.go:168", after := #[{ on := 9, ground := Go.Ground.data }], guard := none }) (v := ?_) rfl (by kernel_rfl) (by kernel_rfl) (by kernel_rfl) (by kernel_rfl) (fun _ _ _ h => h) (Or.inl ⟨by rfl, ?_⟩) (by assumption) ?_
              rotate_left
              · intro w hSw
                (try dsimp only at hSw)
                go_simp
                all_goals (with_reducible rfl)
              try simp only [Act.put, List.setIfInBounds_toArray, List.set_cons_zero, List.set_cons_succ]
              refine wpAnyT_take (i := 11) (oi := { dst := some 62, op := Go.Op.call { callee := Go.Callee.builtin Go.Builtin.max, args := #[Go.Operand.tmp 61, Go.Operand.const (Go.Value.int Go.IntKind.i64 0)], argTypes := #[3, 3] }, type := 3, pos := "respeak.go:168", after := #[{ on := 10, ground := Go.Ground.data }], guard := none }) (v := ?_) rfl (by kernel_rfl) (by kernel_rfl) (by kernel_rfl) (by kernel_rfl) (fun _ _ _ h => h) (Or.inl ⟨by rfl, ?_⟩) (by assumption) ?_
              rotate_left
              · intro w hSw
                (try dsimp only at hSw)
                go_simp
                all_goals (with_reducible rfl)
              try simp only [Act.put, List.setIfInBounds_toArray, List.set_cons_zero, List.set_cons_succ]
              refine wpAnyT_take (i := 12) (oi := { dst := some 63, op := Go.Op.slice 42 (Go.Operand.tmp 55) (some (Go.Operand.tmp 62)) none none, type := 42, pos := "respeak.go:168", after := #[{ on := 4, ground := Go.Ground.data }, { on := 11, ground := Go.Ground.data }], guard := none }) (v := ?_) rfl (by kernel_rfl) (by kernel_rfl) (by kernel_rfl) (by kernel_rfl) (fun _ _ _ h => h) (Or.inl ⟨by rfl, ?_⟩) (by assumption) ?_
              rotate_left
              · intro w hSw
                (try dsimp only at hSw)
                go_simp
                all_goals (with_reducible rfl)
              try simp only [Act.put, List.setIfInBounds_toArray, List.set_cons_zero, List.set_cons_succ]
              refine wpAnyT_one (i := 13) (o := { dst := some 64, op := Go.Op.call { callee := Go.Callee.value (Go.Operand.func 77), args := #[Go.Operand.tmp 63], argTypes := #[42] }, type := 42, pos := "respeak.go:168", after := #[{ on := 12, ground := Go.Ground.data }], guard := none }) (by kernel_rfl) rfl (fun K hK => ?_)
              go_simp
              go_at_call 77
              refine (clone9 W4.drew _ _ _ hR9 (one_wcells _) (by omega)).mono ?_
              rintro e w5 ⟨v5, rfl, ho5, hb5⟩
              obtain ⟨a5, c5', rfl⟩ := own_len ho5
              go_wp2_with fail
              refine hK.out _ _ ⟨(hb5.cell (p := ⟨b, 4, none⟩) hlt).trans c4, (hb5.frozen (p := ⟨b, 4, none⟩) hlt).trans hf4'⟩ (fun hHeld => ?_)
              clear hK K
              try simp only [Act.put, List.setIfInBounds_toArray, List.set_cons_zero, List.set_cons_succ]
              refine wpAnyT_last (i := 14) (o := { dst := some 65, op := Go.Op.nilCheck (Go.Operand.tmp 51), type := 0, pos := "respeak.go:168", after := #[{ on := 0, ground := Go.Ground.data }, { on := 0, ground := Go.Ground.phase }, { on := 1, ground := Go.Ground.phase }, { on := 2, ground := Go.Ground.phase }, { on := 3, ground := Go.Ground.phase }, { on := 4, ground := Go.Ground.phase }, { on := 5, ground := Go.Ground.phase }, { on := 6, ground := Go.Ground.phase }, { on := 7, ground := Go.Ground.phase }, { on := 8, ground := Go.Ground.phase }, { on := 9, ground := Go.Ground.phase }, { on := 10, ground := Go.Ground.phase }, { on := 11, ground := Go.Ground.phase }, { on := 12, ground := Go.Ground.phase }, { on := 13, ground := Go.Ground.phase }], guard := none }) (by kernel_rfl) rfl (by decide) (fun K hK => ?_)
              go_simp
              refine hK.out _ _ ?_
              clear hK K
              try simp only [Act.put, List.setIfInBounds_toArray, List.set_cons_zero, List.set_cons_succ]
              refine wpAnyT_last (i := 15) (o := { dst := some 66, op := Go.Op.fieldAddr 88 (Go.Operand.tmp 65) 4, type := 0, pos := "respeak.go:168", after := #[{ on := 14, ground := Go.Ground.data }, { on := 0, ground := Go.Ground.phase }, { on := 1, ground := Go.Ground.phase }, { on := 2, ground := Go.Ground.phase }, { on := 3, ground := Go.Ground.phase }, { on := 4, ground := Go.Ground.phase }, { on := 5, ground := Go.Ground.phase }, { on := 6, ground := Go.Ground.phase }, { on := 7, ground := Go.Ground.phase }, { on := 8, ground := Go.Ground.phase }, { on := 9, ground := Go.Ground.phase }, { on := 10, ground := Go.Ground.phase }, { on := 11, ground := Go.Ground.phase }, { on := 12, ground := Go.Ground.phase }, { on := 13, ground := Go.Ground.phase }], guard := none }) (by kernel_rfl) rfl (by decide) (fun K hK => ?_)
              go_simp
              refine hK.out _ _ ?_
              clear hK K
              try simp only [Act.put, List.setIfInBounds_toArray, List.set_cons_zero, List.set_cons_succ]
              refine wpAnyT_last (i := 16) (o := { dst := none, op := Go.Op.store 42 (Go.Operand.tmp 66) (Go.Operand.tmp 64), type := 0, pos := "respeak.go:168", after := #[{ on := 15, ground := Go.Ground.data }, { on := 13, ground := Go.Ground.data }, { on := 13, ground := Go.Ground.chain }, { on := 0, ground := Go.Ground.phase }, { on := 1, ground := Go.Ground.phase }, { on := 2, ground := Go.Ground.phase }, { on := 3, ground := Go.Ground.phase }, { on := 4, ground := Go.Ground.phase }, { on := 5, ground := Go.Ground.phase }, { on := 6, ground := Go.Ground.phase }, { on := 7, ground := Go.Ground.phase }, { on := 8, ground := Go.Ground.phase }, { on := 9, ground := Go.Ground.phase }, { on := 10, ground := Go.Ground.phase }, { on := 11, ground := Go.Ground.phase }, { on := 12, ground := Go.Ground.phase }, { on := 13, ground := Go.Ground.phase }], guard := none }) (by kernel_rfl) rfl (by decide) (fun K hK => ?_)
              go_simp
              refine hK.out _ _ ?_
              clear hK K
              try simp only [Act.put, List.setIfInBounds_toArray, List.set_cons_zero, List.set_cons_succ]
              refine wpAnyT_done (by kernel_rfl) ?_ _
              go_wp2_with fail
              go_meet
              rw [HL.out]
              exact HT4.out.clone (l := T1) ⟨hb5.os, hb5.tape, hb5.output, hb5.size, hb5.block⟩ ho5
            · obtain hn9 : T1.length = 9 := by omega
              have hR9' := RowR.from hR9 (k := 1) (by omega)
              rw [hn9] at hR9' c4
              have HN9 : Hid ((T1.drop 1).length = 9 - 1) := Lib.hid (by rw [List.length_drop, hn9])
              have HL' : Hid (last8 T1 = T1.drop 1) := Lib.hid (by rw [HL.out, hn9])
              have hc91 : ¬ c9 = 1 := by omega
              clear HL hl1 hl9 h89 hR9 hn9 hcap9
              have hw8 : IntKind.i64.wrap 1 = 1 := by decide
              have hm1 : max (1 : Int) 0 = 1 := by decide
              refine wp_region_tail 14 (S := (fun w' => w'.cell? ⟨b, 4, none⟩ = some (.slice (some ⟨g9, 0, none⟩) 9 c9) ∧ w'.frozen? ⟨b, 4, none⟩ = false)) (by kernel_rfl) ⟨c4, hf4'⟩ (fun hHeld => ?_)
              simp only [List.size_toArray, List.length_cons, List.length_nil, Nat.zero_add, Nat.reduceAdd]
              refine wpAnyT_take (i := 0) (oi := { dst := some 51, op := Go.Op.move (Go.Operand.tmp 0), type := 48, pos := "respeak.go:168", after := #[], guard := none }) (v := ?_) rfl (by kernel_rfl) (by kernel_rfl) (by kernel_rfl) (by kernel_rfl) (fun _ _ _ h => h) (Or.inl ⟨by rfl, ?_⟩) (by assumption) ?_
              rotate_left
              · intro w hSw
                (try dsimp only at hSw)
                go_simp
                all_goals (with_reducible rfl)
              try simp only [Act.put, List.setIfInBounds_toArray, List.set_cons_zero, List.set_cons_succ]
              refine wpAnyT_take (i := 1) (oi := { dst := some 52, op := Go.Op.move (Go.Operand.tmp 0), type := 48, pos := "respeak.go:168", after := #[], guard := none }) (v := ?_) rfl (by kernel_rfl) (by kernel_rfl) (by kernel_rfl) (by kernel_rfl) (fun _ _ _ h => h) (Or.inl ⟨by rfl, ?_⟩) (by assumption) ?_
              rotate_left
              · intro w hSw
                (try dsimp only at hSw)
                go_simp
                all_goals (with_reducible rfl)
              try simp only [Act.put, List.setIfInBounds_toArray, List.set_cons_zero, List.set_cons_succ]
              refine wpAnyT_take (i := 2) (oi := { dst := some 53, op := Go.Op.nilCheck (Go.Operand.tmp 52), type := 0, pos := "respeak.go:168", after := #[{ on := 1, ground := Go.Ground.data }], guard := none }) (v := ?_) rfl (by kernel_rfl) (by kernel_rfl) (by kernel_rfl) (by kernel_rfl) (fun _ _ _ h => h) (Or.inl ⟨by rfl, ?_⟩) (by assumption) ?_
              rotate_left
              · intro w hSw
                (try dsimp only at hSw)
                go_simp
                all_goals (with_reducible rfl)
              try simp only [Act.put, List.setIfInBounds_toArray, List.set_cons_zero, List.set_cons_succ]
              refine wpAnyT_take (i := 3) (oi := { dst := some 54, op := Go.Op.fieldAddr 88 (Go.Operand.tmp 53) 4, type := 0, pos := "respeak.go:168", after := #[{ on := 2, ground := Go.Ground.data }], guard := none }) (v := ?_) rfl (by kernel_rfl) (by kernel_rfl) (by kernel_rfl) (by kernel_rfl) (fun _ _ _ h => h) (Or.inl ⟨by rfl, ?_⟩) (by assumption) ?_
              rotate_left
              · intro w hSw
                (try dsimp only at hSw)
                go_simp
                all_goals (with_reducible rfl)
              try simp only [Act.put, List.setIfInBounds_toArray, List.set_cons_zero, List.set_cons_succ]
              refine wpAnyT_take (i := 4) (oi := { dst := some 55, op := Go.Op.load 42 (Go.Operand.tmp 54), type := 42, pos := "respeak.go:168", after := #[{ on := 3, ground := Go.Ground.data }], guard := none }) (v := ?_) rfl (by kernel_rfl) (by kernel_rfl) (by kernel_rfl) (by kernel_rfl) (fun _ _ _ h => h) (Or.inl ⟨by rfl, ?_⟩) (by assumption) ?_
              rotate_left
              · intro w hSw
                (try dsimp only at hSw)
                go_simp
                all_goals (with_reducible rfl)
              try simp only [Act.put, List.setIfInBounds_toArray, List.set_cons_zero, List.set_cons_succ]
              refine wpAnyT_take (i := 5) (oi := { dst := some 56, op := Go.Op.move (Go.Operand.tmp 0), type := 48, pos := "respeak.go:168", after := #[], guard := none }) (v := ?_) rfl (by kernel_rfl) (by kernel_rfl) (by kernel_rfl) (by kernel_rfl) (fun _ _ _ h => h) (Or.inl ⟨by rfl, ?_⟩) (by assumption) ?_
              rotate_left
              · intro w hSw
                (try dsimp only at hSw)
                go_simp
                all_goals (with_reducible rfl)
              try simp only [Act.put, List.setIfInBounds_toArray, List.set_cons_zero, List.set_cons_succ]
              refine wpAnyT_take (i := 6) (oi := { dst := some 57, op := Go.Op.nilCheck (Go.Operand.tmp 56), type := 0, pos := "respeak.go:168", after := #[{ on := 5, ground := Go.Ground.data }], guard := none }) (v := ?_) rfl (by kernel_rfl) (by kernel_rfl) (by kernel_rfl) (by kernel_rfl) (fun _ _ _ h => h) (Or.inl ⟨by rfl, ?_⟩) (by assumption) ?_
              rotate_left
              · intro w hSw
                (try dsimp only at hSw)
                go_simp
                all_goals (with_reducible rfl)
              try simp only [Act.put, List.setIfInBounds_toArray, List.set_cons_zero, List.set_cons_succ]
              refine wpAnyT_take (i := 7) (oi := { dst := some 58, op := Go.Op.fieldAddr 88 (Go.Operand.tmp 57) 4, type := 0, pos := "respeak.go:168", after := #[{ on := 6, ground := Go.Ground.data }], guard := none }) (v := ?_) rfl (by kernel_rfl) (by kernel_rfl) (by kernel_rfl) (by kernel_rfl) (fun _ _ _ h => h) (Or.inl ⟨by rfl, ?_⟩) (by assumption) ?_
              rotate_left
              · intro w hSw
                (try dsimp only at hSw)
                go_simp
                all_goals (with_reducible rfl)
              try simp only [Act.put, List.setIfInBounds_toArray, List.set_cons_zero, List.set_cons_succ]
              refine wpAnyT_take (i := 8) (oi := { dst := some 59, op := Go.Op.load 42 (Go.Operand.tmp 58), type := 42, pos := "respeak.go:168", after := #[{ on := 7, ground := Go.Ground.data }], guard := none }) (v := ?_) rfl (by kernel_rfl) (by kernel_rfl) (by kernel_rfl) (by kernel_rfl) (fun _ _ _ h => h) (Or.inl ⟨by rfl, ?_⟩) (by assumption) ?_
              rotate_left
              · intro w hSw
                (try dsimp only at hSw)
                go_simp
                all_goals (with_reducible rfl)
              try simp only [Act.put, List.setIfInBounds_toArray, List.set_cons_zero, List.set_cons_succ]
              refine wpAnyT_take (i := 9) (oi := { dst := some 60, op := Go.Op.call { callee := Go.Callee.builtin Go.Builtin.len, args := #[Go.Operand.tmp 59], argTypes := #[42] }, type := 3, pos := "respeak.go:168", after := #[{ on := 8, ground := Go.Ground.data }], guard := none }) (v := ?_) rfl (by kernel_rfl) (by kernel_rfl) (by kernel_rfl) (by kernel_rfl) (fun _ _ _ h => h) (Or.inl ⟨by rfl, ?_⟩) (by assumption) ?_
              rotate_left
              · intro w hSw
                (try dsimp only at hSw)
                go_simp
                all_goals (with_reducible rfl)
              try simp only [Act.put, List.setIfInBounds_toArray, List.set_cons_zero, List.set_cons_succ]
              refine wpAnyT_take (i := 10) (oi := { dst := some 61, op := Go.Op.binOp Go.BinOp.sub 3 (Go.Operand.tmp 60) (Go.Operand.const (Go.Value.int Go.IntKind.i64 8)) 3, type := 3, pos := "respeak.go:168", after := #[{ on := 9, ground := Go.Ground.data }], guard := none }) (v := ?_) rfl (by kernel_rfl) (by kernel_rfl) (by kernel_rfl) (by kernel_rfl) (fun _ _ _ h => h) (Or.inl ⟨by rfl, ?_⟩) (by assumption) ?_
              rotate_left
              · intro w hSw
                (try dsimp only at hSw)
                go_simp
                all_goals (with_reducible rfl)
              try simp only [Act.put, List.setIfInBounds_toArray, List.set_cons_zero, List.set_cons_succ]
              refine wpAnyT_take (i := 11) (oi := { dst := some 62, op := Go.Op.call { callee := Go.Callee.builtin Go.Builtin.max, args := #[Go.Operand.tmp 61, Go.Operand.const (Go.Value.int Go.IntKind.i64 0)], argTypes := #[3, 3] }, type := 3, pos := "respeak.go:168", after := #[{ on := 10, ground := Go.Ground.data }], guard := none }) (v := ?_) rfl (by kernel_rfl) (by kernel_rfl) (by kernel_rfl) (by kernel_rfl) (fun _ _ _ h => h) (Or.inl ⟨by rfl, ?_⟩) (by assumption) ?_
              rotate_left
              · intro w hSw
                (try dsimp only at hSw)
                go_simp
                all_goals (with_reducible rfl)
              try simp only [Act.put, List.setIfInBounds_toArray, List.set_cons_zero, List.set_cons_succ]
              refine wpAnyT_take (i := 12) (oi := { dst := some 63, op := Go.Op.slice 42 (Go.Operand.tmp 55) (some (Go.Operand.tmp 62)) none none, type := 42, pos := "respeak.go:168", after := #[{ on := 4, ground := Go.Ground.data }, { on := 11, ground := Go.Ground.data }], guard := none }) (v := ?_) rfl (by kernel_rfl) (by kernel_rfl) (by kernel_rfl) (by kernel_rfl) (fun _ _ _ h => h) (Or.inl ⟨by rfl, ?_⟩) (by assumption) ?_
              rotate_left
              · intro w hSw
                (try dsimp only at hSw)
                go_simp
                all_goals (with_reducible rfl)
              try simp only [Act.put, List.setIfInBounds_toArray, List.set_cons_zero, List.set_cons_succ]
              refine wpAnyT_one (i := 13) (o := { dst := some 64, op := Go.Op.call { callee := Go.Callee.value (Go.Operand.func 77), args := #[Go.Operand.tmp 63], argTypes := #[42] }, type := 42, pos := "respeak.go:168", after := #[{ on := 12, ground := Go.Ground.data }], guard := none }) (by kernel_rfl) rfl (fun K hK => ?_)
              go_simp
              go_at_call 77
              refine (clone9 W4.drew _ _ _ hR9' (one_wcells _) (by omega)).mono ?_
              rintro e w5 ⟨v5, rfl, ho5, hb5⟩
              obtain ⟨a5, c5', rfl⟩ := own_len ho5
              go_wp2_with fail
              refine hK.out _ _ ⟨(hb5.cell (p := ⟨b, 4, none⟩) hlt).trans c4, (hb5.frozen (p := ⟨b, 4, none⟩) hlt).trans hf4'⟩ (fun hHeld => ?_)
              clear hK K
              try simp only [Act.put, List.setIfInBounds_toArray, List.set_cons_zero, List.set_cons_succ]
              refine wpAnyT_last (i := 14) (o := { dst := some 65, op := Go.Op.nilCheck (Go.Operand.tmp 51), type := 0, pos := "respeak.go:168", after := #[{ on := 0, ground := Go.Ground.data }, { on := 0, ground := Go.Ground.phase }, { on := 1, ground := Go.Ground.phase }, { on := 2, ground := Go.Ground.phase }, { on := 3, ground := Go.Ground.phase }, { on := 4, ground := Go.Ground.phase }, { on := 5, ground := Go.Ground.phase }, { on := 6, ground := Go.Ground.phase }, { on := 7, ground := Go.Ground.phase }, { on := 8, ground := Go.Ground.phase }, { on := 9, ground := Go.Ground.phase }, { on := 10, ground := Go.Ground.phase }, { on := 11, ground := Go.Ground.phase }, { on := 12, ground := Go.Ground.phase }, { on := 13, ground := Go.Ground.phase }], guard := none }) (by kernel_rfl) rfl (by decide) (fun K hK => ?_)
              go_simp
              refine hK.out _ _ ?_
              clear hK K
              try simp only [Act.put, List.setIfInBounds_toArray, List.set_cons_zero, List.set_cons_succ]
              refine wpAnyT_last (i := 15) (o := { dst := some 66, op := Go.Op.fieldAddr 88 (Go.Operand.tmp 65) 4, type := 0, pos := "respeak.go:168", after := #[{ on := 14, ground := Go.Ground.data }, { on := 0, ground := Go.Ground.phase }, { on := 1, ground := Go.Ground.phase }, { on := 2, ground := Go.Ground.phase }, { on := 3, ground := Go.Ground.phase }, { on := 4, ground := Go.Ground.phase }, { on := 5, ground := Go.Ground.phase }, { on := 6, ground := Go.Ground.phase }, { on := 7, ground := Go.Ground.phase }, { on := 8, ground := Go.Ground.phase }, { on := 9, ground := Go.Ground.phase }, { on := 10, ground := Go.Ground.phase }, { on := 11, ground := Go.Ground.phase }, { on := 12, ground := Go.Ground.phase }, { on := 13, ground := Go.Ground.phase }], guard := none }) (by kernel_rfl) rfl (by decide) (fun K hK => ?_)
              go_simp
              refine hK.out _ _ ?_
              clear hK K
              try simp only [Act.put, List.setIfInBounds_toArray, List.set_cons_zero, List.set_cons_succ]
              refine wpAnyT_last (i := 16) (o := { dst := none, op := Go.Op.store 42 (Go.Operand.tmp 66) (Go.Operand.tmp 64), type := 0, pos := "respeak.go:168", after := #[{ on := 15, ground := Go.Ground.data }, { on := 13, ground := Go.Ground.data }, { on := 13, ground := Go.Ground.chain }, { on := 0, ground := Go.Ground.phase }, { on := 1, ground := Go.Ground.phase }, { on := 2, ground := Go.Ground.phase }, { on := 3, ground := Go.Ground.phase }, { on := 4, ground := Go.Ground.phase }, { on := 5, ground := Go.Ground.phase }, { on := 6, ground := Go.Ground.phase }, { on := 7, ground := Go.Ground.phase }, { on := 8, ground := Go.Ground.phase }, { on := 9, ground := Go.Ground.phase }, { on := 10, ground := Go.Ground.phase }, { on := 11, ground := Go.Ground.phase }, { on := 12, ground := Go.Ground.phase }, { on := 13, ground := Go.Ground.phase }], guard := none }) (by kernel_rfl) rfl (by decide) (fun K hK => ?_)
              go_simp
              refine hK.out _ _ ?_
              clear hK K
              try simp only [Act.put, List.setIfInBounds_toArray, List.set_cons_zero, List.set_cons_succ]
              refine wpAnyT_done (by kernel_rfl) ?_ _
              go_wp2_with fail
              go_meet
              rw [HL'.out]
              exact HT4.out.clone (l := T1.drop 1) ⟨hb5.os, hb5.tape, hb5.output, hb5.size, hb5.block⟩ (by rw [HN9.out]; exact ho5)
          case rest =>
            clear h1 h3 HT4
            have Hq := Lib.hid (hcut.fin (x := .string (ba X.1)) (y := .bool X.2.1) (z := .bool X.2.2))
            obtain ⟨_, hR, hXB, _, _, _⟩ := hcut
            obtain ⟨r0, r1, r2, rf, rlt⟩ := blk3 hR
            obtain ⟨x0, x1, x2, xf, xlt⟩ := blk3 hXB
            clear hR hXB
            go_wp2_with fail
            refine post_as (fun W6 => SpAt W6 (grow O w W6) b S.take ∧ W6.heap[w.heap.size]? = some (.cells #[.string (ba X.1), .bool X.2.1, .bool X.2.2] 59 (0, 0)) ∧ Within O w W6) (by rw [E1.out.1, HN.out, ← HM2.out]; exact Hq.out) (fun W6 ⟨q1, q2, q3⟩ => ?_)
            obtain ⟨s0, s1, s2, _, _⟩ := blk3 q2
            refine bodyPost_ret (v := .tuple #[spkV X, .bool true]) (by simp [results, Tryd.results41, go_sem, s0, s1, s2]; rfl) rfl ?_
            rw [hX.out, HC.out]
            exact ⟨rfl, q1, q3⟩
  · have E1 := Lib.hid (Hn.out hcan)
    have HC := Lib.hid hcan
    obtain ⟨r0, r1, r2, rf, rlt⟩ := blk3 hR
    rw [hcan]
    clear Hn Hm Hw Hl hb1 hcan
    generalize hX' : S.peek = X
    have hX := Lib.hid hX'
    clear hX'
    go_wp2_with fail
    refine post_as (fun W => Below w.heap.size w W ∧ W.heap[w.heap.size]? = some (.cells #[.string ⟨#[]⟩, .bool false, .bool false] 59 (0, 0))) ⟨(((hb.setCell (Nat.le_refl _) _).setCell (Nat.le_refl _) _).setCell (Nat.le_refl _) _).alloc (by simp; omega) _, blk_stay (set3 hR) (below1 _ (Nat.le_refl _))⟩ (fun W ⟨hbW, hRW⟩ => ?_)
    obtain ⟨s0, s1, s2, _, _⟩ := blk3 hRW
    refine bodyPost_ret (v := .tuple #[spkV default, .bool false]) (by simp [results, Tryd.results41, go_sem, s0, s1, s2]; rfl) rfl ?_
    rw [E1.out.1, E1.out.2, HC.out]
    exact ⟨rfl, (HT.out.below hbW).weaken (fun k hk => Or.inl hk), Within.of_below hbW⟩
end Go.Proofs.YtheemefggkcfbaaDoor
