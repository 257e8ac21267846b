import Derived.Test.YtheemefggkcfbaaDoorR25
import Derived.Deep.RegionHeld3
namespace Go.Proofs.YtheemefggkcfbaaDoor
open Go Go.Lib Go.RowKit Go.Shelf
/-! ### Clone; a number out of range; speakers that are none -/
theorem SpAt.apart {w w' : World} {O O' : Nat → Prop} {b : Nat} {S : Sp} (h : SpAt w O b S) (hW : Within O' w w') (hO : ∀ k, O k → ¬ O' k) : SpAt w' O b S := by
  obtain ⟨vo, vt, h1, h2, h3, h4, h5, h6⟩ := h
  have st : ∀ {e s n : Nat} {v : Value} {xs : List Value}, w.ownsRow 0 e s v n xs → (∀ k, v.ownBlock = some k → O k) → w'.ownsRow 0 e s v n xs := by
    intro e s n v xs ho hv
    refine ⟨ho.1, ?_⟩
    rcases ho.2 with h | ⟨g, cap, cur, rfl, hb, hg, rest⟩
    · exact Or.inl h
    · exact Or.inr ⟨g, cap, cur, rfl, hb, by rw [hW.block g (heap_lt hg) (hO g (hv g rfl))]; exact hg, rest⟩
  exact ⟨vo, vt, by rw [hW.block b (heap_lt h1) (hO b h4)]; exact h1, st h2 h5, st h3 h6, h4, h5, h6⟩
section
variable {w W w' w'' w4 w5 : World} {b B : Nat} {vo vt v1 v2 u : Value} {o : Nat} {S : Sp}
theorem cs_call (h : w'.cell? ⟨b, 1, none⟩ = some vo ∧ w'.cell? ⟨b, 4, none⟩ = some vt ∧ Below w.heap.size w w') (hlt : b < w.heap.size) (hb : Below w'.heap.size w' w'') : w''.cell? ⟨b, 1, none⟩ = some vo ∧ w''.cell? ⟨b, 4, none⟩ = some vt ∧ Below w.heap.size w w'' := by
  have hz := h.2.2.size
  exact ⟨(hb.cell (p := ⟨b, 1, none⟩) (by show b < _; omega)).trans h.1, (hb.cell (p := ⟨b, 4, none⟩) (by show b < _; omega)).trans h.2.1, h.2.2.trans (hb.mono hz)⟩
theorem cs_set (h : w'.cell? ⟨b, 1, none⟩ = some vo ∧ w'.cell? ⟨b, 4, none⟩ = some vt ∧ Below w.heap.size w w') (hlt : b < w.heap.size) (hB : w.heap.size ≤ B) : (w'.setCell ⟨B, o, none⟩ u).cell? ⟨b, 1, none⟩ = some vo ∧ (w'.setCell ⟨B, o, none⟩ u).cell? ⟨b, 4, none⟩ = some vt ∧ Below w.heap.size w (w'.setCell ⟨B, o, none⟩ u) :=
  ⟨(World.cell?_setCell_far _ _ _ _ (by show B ≠ b; omega)).trans h.1, (World.cell?_setCell_far _ _ _ _ (by show B ≠ b; omega)).trans h.2.1, h.2.2.setCell hB _⟩
theorem cs_below (h : w'.cell? ⟨b, 1, none⟩ = some vo ∧ w'.cell? ⟨b, 4, none⟩ = some vt ∧ Below w.heap.size w w') : Below w.heap.size w w' := h.2.2
theorem clone_endA (hbW : Below w.heap.size w W) (hB : W.heap[B]? = some (.cells (spc S.hold vo S.mark S.free vt S.brk) 88 (0, 0))) (hwB : w.heap.size ≤ B) (hb4 : Below W.heap.size W w4) (ho4 : w4.ownsRow W.heap.size 59 3 v1 S.opn.length (scells S.opn))
    (hb5 : Below w4.heap.size w4 w5) (ho5 : w5.ownsRow w4.heap.size 9 1 v2 S.tkn.length (wcells S.tkn)) :
    SpAt ((w5.setCell ⟨B, 1, none⟩ v1).setCell ⟨B, 4, none⟩ v2) (fun k => w.heap.size ≤ k ∧ k < ((w5.setCell ⟨B, 1, none⟩ v1).setCell ⟨B, 4, none⟩ v2).heap.size) B S ∧ Below w.heap.size w ((w5.setCell ⟨B, 1, none⟩ v1).setCell ⟨B, 4, none⟩ v2) := by
  have k5 := blk_stay (blk_stay hB hb4) hb5
  have r1 := own_base (own_stays ho4 hb5)
  have r2 := own_base ho5
  have hz4 := hb4.size
  have hz5 := hb5.size
  have hzW := hbW.size
  have hlB := heap_lt hB
  have hbl := (hbW.trans (hb4.mono hzW)).trans (hb5.mono (by omega))
  refine ⟨⟨v1, v2, blk_set (blk_set k5), row_far (by decide) (blk_set k5) (row_far (by decide) k5 r1), row_far (by decide) (blk_set k5) (row_far (by decide) k5 r2), ⟨hwB, by simp; omega⟩, fun k hk => ⟨by have := own_from ho4 hk; omega, by have := RowR.own_lt (own_stays ho4 hb5) hk; simpa using this⟩, fun k hk => ⟨by have := own_from ho5 hk; omega, by have := RowR.own_lt ho5 hk; simpa using this⟩⟩, (hbl.setCell hwB _).setCell hwB _⟩
theorem clone_endB (hbW : Below w.heap.size w W) (hB : W.heap[B]? = some (.cells (spc S.hold vo S.mark S.free vt S.brk) 88 (0, 0))) (hwB : w.heap.size ≤ B) (hb4 : Below W.heap.size W w4) (ho4 : w4.ownsRow W.heap.size 59 3 v1 S.opn.length (scells S.opn))
    (hb5 : Below (w4.setCell ⟨B, 1, none⟩ v1).heap.size (w4.setCell ⟨B, 1, none⟩ v1) w5) (ho5 : w5.ownsRow (w4.setCell ⟨B, 1, none⟩ v1).heap.size 9 1 v2 S.tkn.length (wcells S.tkn)) :
    SpAt (w5.setCell ⟨B, 4, none⟩ v2) (fun k => w.heap.size ≤ k ∧ k < (w5.setCell ⟨B, 4, none⟩ v2).heap.size) B S ∧ Below w.heap.size w (w5.setCell ⟨B, 4, none⟩ v2) := by
  have k4 := blk_stay hB hb4
  have k5 := blk_stay (blk_set k4 (o := 1) (u := v1)) hb5
  have r0 := row_far (u := v1) (o := 1) (by decide) k4 ho4
  have r1 := own_base (own_stays r0 hb5)
  have r2 := own_base ho5
  have hz4 := hb4.size
  have hz5 := hb5.size
  have hzW := hbW.size
  have hlB := heap_lt hB
  have hzs : (w4.setCell ⟨B, 1, none⟩ v1).heap.size = w4.heap.size := by simp
  have hbl := ((hbW.trans (hb4.mono hzW)).setCell hwB v1 (p := ⟨B, 1, none⟩)).trans (hb5.mono (by omega))
  refine ⟨⟨v1, v2, blk_set k5, row_far (by decide) k5 r1, row_far (by decide) k5 r2, ⟨hwB, by simp; omega⟩, fun k hk => ⟨by have := own_from ho4 hk; omega, by have := RowR.own_lt (own_stays r0 hb5) hk; simpa using this⟩, fun k hk => ⟨by have := own_from ho5 hk; omega, by have := RowR.own_lt ho5 hk; simpa using this⟩⟩, hbl.setCell hwB _⟩
end
set_option maxHeartbeats 8000000 in
set_option maxRecDepth 100000 in
theorem clone_any (w : World) (O : Nat → Prop) (b : Nat) (S : Sp) (h : SpAt w O b S) (hS : S.ok) :
    Calls Tryd.prog 49 #[ptr b] w fun e w' => ∃ b', e = .returned (ptr b') ∧ SpAt w' (fun k => w.heap.size ≤ k ∧ k < w'.heap.size) b' S ∧ Below w.heap.size w w' := by
  have HT := Lib.hid h
  obtain ⟨vo, vt, h1, h2, h3, h4, h5, h6⟩ := h
  obtain ⟨c0, c1, c2, c3, c4, c5, hf, hlt⟩ := blk_facts h1
  obtain ⟨ao, co, rfl⟩ := own_len h2
  obtain ⟨at4, ct4, rfl⟩ := own_len h3
  have R2 := RowR.of_own h2
  have R3 := RowR.of_own h3
  have hlen := hS.len
  have htk := hS.tkn
  clear h2 h3 h5 h6 hS h4 h1
  generalize hM : S.opn.length = M at *
  generalize hN : S.tkn.length = N at *
  have HM := Lib.hid hM
  have HN := Lib.hid hN
  clear hM hN
  go_enter Tryd.func49, Tryd.ntmps49
  go_wp2_with fail
  refine world_as (fun W => Below w.heap.size w W ∧ W.heap[w.heap.size]? = some (.cells (spc S.hold (.slice ao M co) S.mark S.free (.slice at4 N ct4) S.brk) 88 (0, 0))) ⟨below1 _ (Nat.le_refl _), heap_alloc_new w _⟩ ?_
  rintro W ⟨hbW, hB⟩
  have hwB : w.heap.size ≤ w.heap.size := Nat.le_refl _
  have hBl := heap_lt hB
  have e1 := (hbW.cell (p := ⟨b, 1, none⟩) hlt).trans c1
  have e4 := (hbW.cell (p := ⟨b, 4, none⟩) hlt).trans c4
  obtain ⟨x0, x1, x2, x3, x4, x5, xf, _⟩ := blk_facts hB
  have xf1 := xf 1
  have xf4 := xf 4
  clear c0 c1 c2 c3 c4 c5 hf x0 x2 x3 x5 xf
  have hbd : Below w.heap.size w W.drew := hbW.drew
  generalize hBn : w.heap.size = B at *
  subst hBn
  go_region_held3 (fun w' => w'.cell? ⟨b, 1, none⟩ = some (.slice ao M co) ∧ w'.cell? ⟨b, 4, none⟩ = some (.slice at4 N ct4) ∧ Below w.heap.size w w')
    (first
      | exact ⟨e1, e4, hbd⟩
      | exact cs_call (by assumption) hlt hb4
      | exact cs_call (by assumption) hlt hb5
      | exact cs_set (by assumption) hlt (Nat.le_refl _))
    (first
      | (go_at_call 75; refine (clone59 _ _ _ _ (R2.below (cs_below (by assumption))) (one_scells _) (by omega)).mono ?_; rintro e w4 ⟨v1, rfl, ho4, hb4⟩; obtain ⟨a7, c7, rfl⟩ := own_len ho4; have xx1 := hb4.cell (p := ⟨w.heap.size, 1, none⟩) hBl; have xx4 := hb4.cell (p := ⟨w.heap.size, 4, none⟩) hBl; have xy1 := hb4.frozen (p := ⟨w.heap.size, 1, none⟩) hBl; have xy4 := hb4.frozen (p := ⟨w.heap.size, 4, none⟩) hBl)
      | (go_at_call 77; refine (clone9 _ _ _ _ (R3.below (cs_below (by assumption))) (one_wcells _) (by omega)).mono ?_; rintro e w5 ⟨v2, rfl, ho5, hb5⟩; obtain ⟨a8, c8, rfl⟩ := own_len ho5; have yy1 := hb5.cell (p := ⟨w.heap.size, 1, none⟩) (by have := hb4.size; have h2 : W.drew.heap.size = W.heap.size := rfl; simp; omega); have yy4 := hb5.cell (p := ⟨w.heap.size, 4, none⟩) (by have := hb4.size; have h2 : W.drew.heap.size = W.heap.size := rfl; simp; omega); have yz1 := hb5.frozen (p := ⟨w.heap.size, 1, none⟩) (by have := hb4.size; have h2 : W.drew.heap.size = W.heap.size := rfl; simp; omega); have yz4 := hb5.frozen (p := ⟨w.heap.size, 4, none⟩) (by have := hb4.size; have h2 : W.drew.heap.size = W.heap.size := rfl; simp; omega)))
  all_goals
    have hq4 : Below W.heap.size W w4 := ⟨hb4.os, hb4.tape, hb4.output, hb4.size, hb4.block⟩
    have HE : Hid ((∀ hb5 : Below w4.heap.size w4 w5, ∀ ho5 : w5.ownsRow w4.heap.size 9 1 (.slice a8 N c8) S.tkn.length (wcells S.tkn), _) ∧ _) := Lib.hid ⟨fun hb5 ho5 => clone_endA (S := S) hbW hB (Nat.le_refl _) hq4 (by rw [HM.out]; exact ho4) hb5 ho5, trivial⟩
    have HE2 : Hid ((∀ hb5 : Below (w4.setCell ⟨w.heap.size, 1, none⟩ (.slice a7 M c7)).heap.size (w4.setCell ⟨w.heap.size, 1, none⟩ (.slice a7 M c7)) w5, ∀ ho5 : w5.ownsRow (w4.setCell ⟨w.heap.size, 1, none⟩ (.slice a7 M c7)).heap.size 9 1 (.slice a8 N c8) S.tkn.length (wcells S.tkn), _) ∧ _) := Lib.hid ⟨fun hb5 ho5 => clone_endB (S := S) hbW hB (Nat.le_refl _) hq4 (by rw [HM.out]; exact ho4) hb5 ho5, trivial⟩
    rw [← HN.out] at ho5
    go_wp2_with fail
    go_ret
    first
      | exact ⟨_, rfl, HE.out.1 hb5 (by rw [HN.out] at ho5 ⊢; exact ho5)⟩
      | exact ⟨_, rfl, HE2.out.1 hb5 (by rw [HN.out] at ho5 ⊢; exact ho5)⟩
end Go.Proofs.YtheemefggkcfbaaDoor
