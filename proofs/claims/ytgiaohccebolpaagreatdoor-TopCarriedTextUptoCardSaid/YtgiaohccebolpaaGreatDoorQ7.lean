import Derived.Test.YtgiaohccebolpaaGreatDoorQ6
import Derived.Test.YtgiaohccebolpaaGreatDoorQ4
namespace Go.Proofs.YtgiaohccebolpaaGreatDoor
open Go Go.RowKit
open Go.Lib hiding intOf
set_option linter.unusedVariables false
/-! ### rows of the call's own -/
abbrev RunsO (w : World) (u : Value) (l : Rw) : Prop := w.ownsRow 0 111 5 u l.length (encL Rn.cells l)
def RowsO (w : World) (B : Nat) (v : Value) (L : List Rw) : Prop := ∃ vs : List Value, w.ownsRow B 71 1 v L.length vs ∧ ∀ i, i < L.length → ∃ u, vs[i]? = some u ∧ RunsO w u (L.getD i [])
theorem RunsO.toR {w : World} {u : Value} {l : Rw} (h : RunsO w u l) : RunsR w u l := RowR.of_own h
theorem RowsO.toR {w : World} {B : Nat} {v : Value} {L : List Rw} (h : RowsO w B v L) : RowsR w v L := by
  obtain ⟨vs, h1, h2⟩ := h
  exact ⟨vs, RowR.of_own h1, fun i hi => by obtain ⟨u, e, hu⟩ := h2 i hi; exact ⟨u, e, hu.toR⟩⟩
theorem RowsO.stays {w w' : World} {B : Nat} {v : Value} {L : List Rw} (h : RowsO w B v L) (hb : Below w.heap.size w w') : RowsO w' B v L := by
  obtain ⟨vs, h1, h2⟩ := h
  exact ⟨vs, own_stays h1 hb, fun i hi => by obtain ⟨u, e, hu⟩ := h2 i hi; exact ⟨u, e, own_stays hu hb⟩⟩
theorem RowsO.low {w : World} {B B' : Nat} {v : Value} {L : List Rw} (h : RowsO w B v L) (hB : B' ≤ B) : RowsO w B' v L := by
  obtain ⟨vs, h1, h2⟩ := h
  exact ⟨vs, own_low h1 hB, h2⟩
/-- A block of another type is written, or grows. -/
theorem RowsO.far {w : World} {B b o : Nat} {v u : Value} {L : List Rw} {cs : Array Value} {E : TypeId} (h : RowsO w B v L) (hb : w.heap[b]? = some (.cells cs E (0, 0))) (h1 : E ≠ 71) (h2 : E ≠ 111) : RowsO (w.setCell ⟨b, o, none⟩ u) B v L := by
  obtain ⟨vs, h3, h4⟩ := h
  exact ⟨vs, row_far h1 hb h3, fun i hi => by obtain ⟨u, e, hu⟩ := h4 i hi; exact ⟨u, e, row_far h2 hb hu⟩⟩
theorem own_grown {w w' : World} {B B' E E' s s' n m : Nat} {v u : Value} {xs ys : List Value} (h : w.ownsRow B E s v n xs) (ho : w.ownsRow B' E' s' u m ys) (hE : E' ≠ E) (hg : w.grownBy w' u.ownBlock) : w'.ownsRow B E s v n xs :=
  h.kept hg (rows_apart hE ho h)
theorem RowsO.grown {w w' : World} {B B' E' s' m : Nat} {v u : Value} {L : List Rw} {ys : List Value} (h : RowsO w B v L) (ho : w.ownsRow B' E' s' u m ys) (h1 : E' ≠ 71) (h2 : E' ≠ 111) (hg : w.grownBy w' u.ownBlock) : RowsO w' B v L := by
  obtain ⟨vs, h3, h4⟩ := h
  exact ⟨vs, own_grown h3 ho h1 hg, fun i hi => by obtain ⟨u, e, hu⟩ := h4 i hi; exact ⟨u, e, own_grown hu ho h2 hg⟩⟩
theorem own_far2 {w : World} {B B' E E' s s' g o n c m k : Nat} {v u : Value} {xs ys : List Value} (h : w.ownsRow B E s (.slice (some ⟨g, 0, none⟩) n c) k xs) (ho : w.ownsRow B' E' s' v m ys) (hE : E ≠ E') : (w.setCell ⟨g, o, none⟩ u).ownsRow B' E' s' v m ys :=
  own_far ho (by
    intro e
    rcases rows_apart hE h ho with h1 | h1
    · rw [h1] at e; cases e
    · exact h1 e)
theorem RowsO.len {w : World} {B : Nat} {v : Value} {L : List Rw} (h : RowsO w B v L) : ∃ a c, v = .slice a L.length c := by
  obtain ⟨vs, h1, _⟩ := h; exact own_len h1
theorem own_one {w : World} {B E k n : Nat} {v : Value} {xs : List Value} (h : w.ownsRow B E k v n xs) : v.oneCell' = true := by
  rcases h.2 with ⟨rfl, _⟩ | ⟨g, c, cur, rfl, _⟩ <;> rfl
set_option maxHeartbeats 4000000 in
set_option maxRecDepth 100000 in
theorem sclone_any (v : Value) (L : List Rw) (w : World) (hR : RowsR w v L) (hn : L.length ≤ 1000) (hf : ∀ r ∈ L, r.length ≤ 1048576) :
    Calls Tryz.prog 72 #[v] w fun e w' => ∃ v', e = .returned v' ∧ RowsO w' w.heap.size v' L ∧ Below w.heap.size w w' := by
  obtain ⟨vs, h1, h2⟩ := hR
  have hone : ∀ u ∈ vs, u.oneCell' = true := by
    intro u hu
    obtain ⟨j, hj, rfl⟩ := List.getElem_of_mem hu
    have hjl : j < L.length := by have := h1.1; omega
    obtain ⟨u', e, hu'⟩ := h2 j hjl
    rw [List.getElem?_eq_getElem hj] at e
    injection e with e
    rw [e]
    obtain ⟨a, c, rfl⟩ := RowR.len hu'
    rfl
  have cC := fun w' h => clone_rows v L.length vs w' h hone (by omega)
  have H1 := Lib.hid h1
  have H2 := Lib.hid h2
  have HF : Hid (∀ i, i < L.length → (L.getD i []).length ≤ 1048576) := Lib.hid (fun i hi => by rw [getD_of hi]; exact hf _ (List.getElem_mem hi))
  have hvl : vs.length = L.length := by have := h1.1; omega
  clear h1 h2 hf hone
  go_enter Tryz.func72, Tryz.ntmps72
  go_wp2_with fail
  refine (cC _ H1.out).mono ?_
  rintro e w1 ⟨v1, rfl, hown, hb⟩
  obtain ⟨a, c, rfl⟩ := own_len hown
  have HO := Lib.hid hown
  have HB := Lib.hid hb
  clear hown hb cC
  go_wp2_with fail
  go_loopw [9] (fun v wx => ∃ (i : Nat) (us : List Value), v = .int .i64 i ∧ i ≤ L.length ∧ Hid (wx.ownsRow w.heap.size 71 1 (.slice a L.length c) L.length us) ∧ Hid (∀ k, k < L.length → ∃ u, us[k]? = some u ∧ (k < i → RunsO wx u (L.getD k [])) ∧ (i ≤ k → RunsR w u (L.getD k []))) ∧ Hid (Below w.heap.size w wx)) (fun v _ => L.length - (intOf v).toNat)
  case atStart => exact ⟨0, vs, rfl, Nat.zero_le _, HO, Lib.hid (fun k hk => by obtain ⟨u, e, hu⟩ := H2.out k hk; exact ⟨u, e, fun h => absurd h (by omega), fun _ => hu⟩), HB⟩
  case round =>
    clear HO HB
    obtain ⟨i, us, rfl, hil, HO, HU, HB⟩ := hrel
    have hsz := HB.out.size
    by_cases hlt : i < L.length
    · have hiz : (i : Int) < (L.length : Int) := by omega
      obtain ⟨u, e, _, hu⟩ := HU.out i hlt
      have huR := Lib.hid ((hu (Nat.le_refl _)).below HB.out)
      obtain ⟨g, rfl, _⟩ := own_addr HO.out (by omega)
      have hcell := (RowR.of_own HO.out).cellAt i u e
      have hfz := HO.out.frozenAt i
      have hgl := (HO.out.lt g rfl)
      rw [Nat.zero_add] at hcell
      have cR := fun w' h => clone_runs u (L.getD i []).length (encL Rn.cells (L.getD i [])) w' h (encL_one Rn.cells_one _) (HF.out i hlt)
      clear hu e
      go_wp2_with fail
      refine (cR _ huR.out).mono ?_
      rintro e w2 ⟨u', rfl, ho2, hb2⟩
      obtain ⟨a', c', hu'⟩ := own_len ho2
      obtain ⟨m, hm⟩ : ∃ m, m = (L.getD i []).length := ⟨_, rfl⟩
      rw [← hm] at hu'
      subst hu'
      have hO2 := own_stays HO.out hb2
      have hcell2 := (hb2.cell (p := ⟨g, i, none⟩) hgl.2).trans hcell
      have hfz2 := hO2.frozenAt i
      have hO3 := Lib.hid (hO2.stored i (.slice a' m c')).1
      have hul : us.length = L.length := by have := HO.out.1; omega
      have HU3 : Hid (∀ k, k < L.length → ∃ z, (us.set i (.slice a' m c'))[k]? = some z ∧ (k < i + 1 → RunsO (w2.setCell ⟨g, i, none⟩ (.slice a' m c')) z (L.getD k [])) ∧ (i + 1 ≤ k → RunsR w z (L.getD k []))) := by
        refine Lib.hid fun k hk => ?_
        by_cases hki : k = i
        · subst hki
          exact ⟨_, by rw [List.getElem?_set_self (by omega)], fun _ => own_far2 hO2 (own_base ho2) (by decide), fun h => absurd h (by omega)⟩
        · obtain ⟨z, e, h1, h2⟩ := HU.out k hk
          exact ⟨z, by rw [List.getElem?_set_ne (Ne.symm hki)]; exact e, fun h => own_far2 hO2 (own_stays (h1 (by omega)) hb2) (by decide), fun h => h2 (by omega)⟩
      have HB3 := Lib.hid ((below_grow HB.out hsz hb2).setCell (p := ⟨g, i, none⟩) hgl.1 (.slice a' m c'))
      clear hcell hfz ho2 hb2 hO2 HU HO HB hm
      go_wp2_with fail
      go_roundw
      case rel => exact ⟨i + 1, _, by go_num, by omega, hO3, HU3, HB3⟩
      case measure => simp [intOf]; omega
    · obtain rfl : i = L.length := by omega
      have hiz : ¬ (L.length : Int) < (L.length : Int) := by omega
      go_wp2_with fail
      go_ret
      exact ⟨_, rfl, ⟨us, HO.out, fun k hk => by obtain ⟨u, e, h, _⟩ := HU.out k hk; exact ⟨u, e, h hk⟩⟩, HB.out⟩
end Go.Proofs.YtgiaohccebolpaaGreatDoor
namespace Go.Proofs.YtgiaohccebolpaaGreatDoor
open Go Go.RowKit
open Go.Lib hiding intOf
set_option linter.unusedVariables false
/-! ### events of the call's own -/
def EvsO (w : World) (B : Nat) (v : Value) (L : List Ev) : Prop := ∃ p : List (Ev × Value), p.map (·.1) = L ∧ w.ownsRow B 63 7 v L.length (encL (fun x => evCells x.1 x.2) p) ∧ ∀ x ∈ p, RowsO w 0 x.2 x.1.rows
theorem EvsO.toR {w : World} {B : Nat} {v : Value} {L : List Ev} (h : EvsO w B v L) : EvsR w v L := by
  obtain ⟨p, h1, h2, h3⟩ := h
  exact ⟨p, h1, RowR.of_own h2, fun x hx => (h3 x hx).toR⟩
theorem EvsO.stays {w w' : World} {B : Nat} {v : Value} {L : List Ev} (h : EvsO w B v L) (hb : Below w.heap.size w w') : EvsO w' B v L := by
  obtain ⟨p, h1, h2, h3⟩ := h
  exact ⟨p, h1, own_stays h2 hb, fun x hx => (h3 x hx).stays hb⟩
theorem EvsO.low {w : World} {B B' : Nat} {v : Value} {L : List Ev} (h : EvsO w B v L) (hB : B' ≤ B) : EvsO w B' v L := by
  obtain ⟨p, h1, h2, h3⟩ := h
  exact ⟨p, h1, own_low h2 hB, h3⟩
theorem EvsO.far {w : World} {B b o : Nat} {v u : Value} {L : List Ev} {cs : Array Value} {E : TypeId} (h : EvsO w B v L) (hb : w.heap[b]? = some (.cells cs E (0, 0))) (h0 : E ≠ 63) (h1 : E ≠ 71) (h2 : E ≠ 111) : EvsO (w.setCell ⟨b, o, none⟩ u) B v L := by
  obtain ⟨p, h3, h4, h5⟩ := h
  exact ⟨p, h3, row_far h0 hb h4, fun x hx => (h5 x hx).far hb h1 h2⟩
theorem EvsO.nil (w : World) (B : Nat) : EvsO w B (.slice none 0 0) [] := ⟨[], rfl, World.ownsRow_nil _ _ _ _, fun x h => (by cases h)⟩
theorem EvsO.len {w : World} {B : Nat} {v : Value} {L : List Ev} (h : EvsO w B v L) : ∃ a c, v = .slice a L.length c := by
  obtain ⟨p, _, h1, _⟩ := h; exact own_len h1
theorem evCells_one (x : Ev × Value) (h : x.2.oneCell' = true) : ∀ u ∈ evCells x.1 x.2, u.oneCell' = true := by
  intro u hu
  simp [evCells] at hu
  rcases hu with rfl | rfl | rfl | rfl | rfl | rfl | rfl <;> first | rfl | exact h
/-- An event is appended. -/
theorem EvsO.push {w w' : World} {B : Nat} {v v' vr : Value} {L : List Ev} {e : Ev} {p : List (Ev × Value)} (hp : p.map (·.1) = L) (ho : w.ownsRow B 63 7 v L.length (encL (fun x => evCells x.1 x.2) p)) (hr : ∀ x ∈ p, RowsO w 0 x.2 x.1.rows) (he : RowsO w 0 vr e.rows)
    (ho' : w'.ownsRow B 63 7 v' (L.length + 1) (encL (fun x => evCells x.1 x.2) p ++ evCells e vr)) (hg : w.grownBy w' v.ownBlock) : EvsO w' B v' (L ++ [e]) := by
  refine ⟨p ++ [(e, vr)], by rw [List.map_append, hp]; rfl, ?_, fun x hx => ?_⟩
  · rw [List.length_append, encL_snoc]; exact ho'
  · rcases List.mem_append.1 hx with h | h
    · exact (hr x h).grown ho (by decide) (by decide) hg
    · simp at h; subst h
      exact he.grown ho (by decide) (by decide) hg
theorem RowsO.far7 {w : World} {B b : Nat} {v : Value} {L : List Rw} {cs : Array Value} {E : TypeId} {x0 x1 x2 x3 x4 x5 x6 : Value} (h : RowsO w B v L) (hb : w.heap[b]? = some (.cells cs E (0, 0))) (h1 : E ≠ 71) (h2 : E ≠ 111) : RowsO (((((((w.setCell ⟨b, 0, none⟩ x0).setCell ⟨b, 1, none⟩ x1).setCell ⟨b, 2, none⟩ x2).setCell ⟨b, 3, none⟩ x3).setCell ⟨b, 4, none⟩ x4).setCell ⟨b, 5, none⟩ x5).setCell ⟨b, 6, none⟩ x6) B v L :=
  (((((((h.far (o := 0) (u := x0) hb h1 h2).far (o := 1) (u := x1) (blk_set (o := 0) (u := x0) hb) h1 h2).far (o := 2) (u := x2) (blk_set (o := 1) (u := x1) (blk_set (o := 0) (u := x0) hb)) h1 h2).far (o := 3) (u := x3) (blk_set (o := 2) (u := x2) (blk_set (o := 1) (u := x1) (blk_set (o := 0) (u := x0) hb))) h1 h2).far (o := 4) (u := x4) (blk_set (o := 3) (u := x3) (blk_set (o := 2) (u := x2) (blk_set (o := 1) (u := x1) (blk_set (o := 0) (u := x0) hb)))) h1 h2).far (o := 5) (u := x5) (blk_set (o := 4) (u := x4) (blk_set (o := 3) (u := x3) (blk_set (o := 2) (u := x2) (blk_set (o := 1) (u := x1) (blk_set (o := 0) (u := x0) hb))))) h1 h2).far (o := 6) (u := x6) (blk_set (o := 5) (u := x5) (blk_set (o := 4) (u := x4) (blk_set (o := 3) (u := x3) (blk_set (o := 2) (u := x2) (blk_set (o := 1) (u := x1) (blk_set (o := 0) (u := x0) hb)))))) h1 h2)
set_option maxHeartbeats 4000000 in
set_option maxRecDepth 100000 in
theorem eclone_any (id inn out : Int) (reg spk : ByteArray) (kind : Int) (v : Value) (L : List Rw) (w : World) (hR : RowsR w v L) (hn : L.length ≤ 1000) (hf : ∀ r ∈ L, r.length ≤ 1048576) :
    Calls Tryz.prog 38 #[evV id inn out reg kind spk v] w fun e w' => ∃ v', e = .returned (evV id inn out reg kind spk v') ∧ RowsO w' w.heap.size v' L ∧ Below w.heap.size w w' := by
  obtain ⟨a, c, rfl⟩ := hR.len
  have cS := fun w' h => sclone_any (.slice a L.length c) L w' h hn hf
  have HR := Lib.hid hR
  clear hR
  go_enter Tryz.func38, Tryz.ntmps38
  go_wp2_with fail
  refine (cS _ (HR.out.below ((below1 _ (Nat.le_refl _)).alloc (by simp) _))).mono ?_
  rintro e w1 ⟨v', rfl, ho, hb⟩
  obtain ⟨a', c', rfl⟩ := ho.len
  have hB0 := blk_stay (blk_stay (heap_alloc_new w (.cells #[.int .i64 id, .int .i64 inn, .int .i64 out, .string reg, .int .u8 kind, .string spk, .slice a L.length c] 63)) (below1 (.cells #[.int .i64 0, .int .i64 0, .int .i64 0, .string ⟨#[]⟩, .int .u8 0, .string ⟨#[]⟩, .slice none 0 0] 63) (Nat.le_refl _))) hb
  have hB1 := blk_stay (heap_alloc2_new w (.cells #[.int .i64 id, .int .i64 inn, .int .i64 out, .string reg, .int .u8 kind, .string spk, .slice a L.length c] 63) (.cells #[.int .i64 0, .int .i64 0, .int .i64 0, .string ⟨#[]⟩, .int .u8 0, .string ⟨#[]⟩, .slice none 0 0] 63)) hb
  have HB := Lib.hid (below_grow (((below1 (.cells #[.int .i64 id, .int .i64 inn, .int .i64 out, .string reg, .int .u8 kind, .string spk, .slice a L.length c] 63) (Nat.le_refl w.heap.size)).alloc (by simp) (.cells #[.int .i64 0, .int .i64 0, .int .i64 0, .string ⟨#[]⟩, .int .u8 0, .string ⟨#[]⟩, .slice none 0 0] 63))) (by simp; omega) hb)
  have HO := Lib.hid ho
  have R0 := Lib.hid hB0
  have R1 := Lib.hid hB1
  clear ho hb hB0 hB1 cS
  obtain ⟨d0, d1, d2, d3, d4, d5, d6, df, dl⟩ := blk7 R0.out
  obtain ⟨f0, f1, f2, f3, f4, f5, f6, ff, fl⟩ := blk7 R1.out
  go_wp2_with fail
  have R1' := blk_other (o := 6) (u := .slice a' L.length c') R1.out (show w.heap.size + 1 ≠ w.heap.size by omega)
  exact bodyPost_ret (results_cell_row Tryz.results38 _ _ _ _ _ _ _ rfl (set7 R1') Tryz.underlying63 rfl (by kernel_rfl)) rfl ⟨_, rfl, ((HO.out.low (by simp; omega)).far R0.out (by decide) (by decide)).far7 R1' (by decide) (by decide), below7 (HB.out.setCell (Nat.le_refl _) _) (Nat.le_succ _)⟩
end Go.Proofs.YtgiaohccebolpaaGreatDoor
namespace Go.Proofs.YtgiaohccebolpaaGreatDoor
open Go Go.RowKit
open Go.Lib hiding intOf
set_option linter.unusedVariables false
set_option maxHeartbeats 4000000 in
set_option maxRecDepth 100000 in
theorem Norm_any (v : Value) (L : Rw) (w : World) (hR : RunsR w v L) (hn : L.length ≤ 1048576) (hT : tot L ≤ 1048576) :
    Calls Tryz.prog 48 #[.agg #[v]] w (MadeRow w.heap.size (normR L) w) := by
  obtain ⟨a, c, rfl⟩ := RowR.len hR
  have cN := fun w hR => norm_any (.slice a L.length c) L w hR hn hT
  have HR := Lib.hid hR
  clear hR
  go_enter Tryz.func48, Tryz.ntmps48
  go_wp2_with fail
  refine (cN _ ((HR.out.alloc _).alloc _)).mono ?_
  rintro e w1 ⟨va, rfl, ho, hb⟩
  obtain ⟨av, cv, rfl⟩ := own_len ho
  have hB1 : w1.heap[w.heap.size + 1]? = some _ := blk_stay (heap_alloc2_new w _ _) hb
  have R1 := Lib.hid hB1
  obtain ⟨o1, of1, olt1⟩ := blk1 hB1
  have of1 := of1 0
  have HO := Lib.hid ho
  have HB := Lib.hid (below_grow ((below1 (B := w.heap.size) (.cells #[.slice a L.length c] 71) (Nat.le_refl _)).alloc (by simp) (.cells #[.slice none 0 0] 71)) (by simp; omega) hb)
  clear ho hb hB1
  go_wp2_with fail
  exact bodyPost_ret (results_cell_row Tryz.results48 _ _ _ _ _ _ _ rfl (blk_set R1.out) Tryz.underlying71 rfl (by kernel_rfl)) rfl ⟨_, rfl, own_low (row_far (by decide) R1.out HO.out) (by simp; omega), HB.out.setCell (Nat.le_succ _) _⟩
/-! ### the text of a row -/
def plainR (L : Rw) : List UInt8 := L.flatMap (·.t)
theorem plainR_snoc (a : Rw) (x : Rn) : plainR (a ++ [x]) = plainR a ++ x.t := by simp [plainR]
theorem plainR_len (a : Rw) : (plainR a).length = tot a := by simp [plainR, tot, List.length_flatMap]
theorem take_succ {α : Type} [Inhabited α] (L : List α) (i : Nat) (h : i < L.length) : L.take (i + 1) = L.take i ++ [L.getD i default] := by
  rw [List.take_succ_eq_append_getElem h, getD_of h]
theorem tot_take (L : Rw) (i : Nat) : tot (L.take i) ≤ tot L := by
  conv => rhs; rw [← List.take_append_drop i L]
  rw [tot_app]; omega
theorem isb_stays {T e : TypeId} {B b : Nat} {bs : List Value} {w w' : World} (h : Lib.IsBuilder T e B b bs w) (hb : Below w.heap.size w w') : Lib.IsBuilder T e B b bs w' := by
  rcases h with ⟨h1, v, h2, h3, h4⟩ | ⟨h1, v, h2, h3, h4⟩
  · exact Or.inl ⟨h1, v, blk_stay h2 hb, own_stays h3 hb, h4⟩
  · exact Or.inr ⟨h1, v, blk_stay h2 hb, own_stays h3 hb, h4⟩
theorem isb_new (w : World) : Lib.IsBuilder 77 5 w.heap.size w.heap.size [] (w.alloc (.cells #[.pointer none, .slice none 0 0] 77)) :=
  Or.inl ⟨Nat.le_refl _, _, heap_alloc_new w _, World.ownsRow_nil _ _ _ _, by simp [Value.ownBlock]⟩
theorem isb_snoc {B b : Nat} {l : List UInt8} {s : List UInt8} {w : World} (h : Lib.BuilderAt 77 5 B b (.pointer (some ⟨b, 0, none⟩)) (Lib.byteCells l ++ Lib.strCells (ba s)) w) : Lib.IsBuilder 77 5 B b (Lib.byteCells (l ++ s)) w := by
  rw [Lib.byteCells_append]; exact Or.inr h
set_option maxHeartbeats 8000000 in
set_option maxRecDepth 100000 in
theorem plain_any (v : Value) (L : Rw) (w : World) (hR : RunsR w v L) (hn : L.length ≤ 1048576) (hT : tot L ≤ 1048576) :
    Calls Tryz.prog 49 #[.agg #[v]] w fun e w' => e = .returned (.string (ba (plainR L))) ∧ Below w.heap.size w w' := by
  obtain ⟨a, c, rfl⟩ := RowR.len hR
  have HR := Lib.hid hR
  have HS := Lib.hid (take_succ L)
  have HT := Lib.hid hT
  clear hR hT
  go_enter Tryz.func49, Tryz.ntmps49
  go_wp2_with fail
  go_loopw [9] (fun v wx => ∃ i : Nat, v = .int .i64 i ∧ i ≤ L.length ∧ Hid (Lib.IsBuilder 77 5 (w.heap.size + 1) (w.heap.size + 1) (Lib.byteCells (plainR (L.take i))) wx) ∧ Hid (Below w.heap.size w wx) ∧ w.heap.size + 1 ≤ wx.heap.size) (fun v _ => L.length - (intOf v).toNat)
  case atStart => exact ⟨0, rfl, Nat.zero_le _, Lib.hid (by have h := isb_new (w.alloc (.cells #[.slice a L.length c] 71)); rw [World.size_alloc] at h; exact h), Lib.hid ((below1 _ (Nat.le_refl _)).alloc (by simp) _), by simp⟩
  case round =>
    obtain ⟨i, rfl, hil, HI, HB, hsz⟩ := hrel
    by_cases hlt : i < L.length
    · have hiz : (i : Int) < (L.length : Int) := by omega
      have hR := HR.out.below HB.out
      obtain ⟨g, off, rfl, hg, _⟩ := hR.addr (by omega)
      obtain ⟨c0, c1, c2, c3, c4⟩ := RunsR.at hR rfl i hlt
      have hl : (plainR (L.take i)).length + (L.getD i default).t.length ≤ 1048576 := by
        have h := tot_take L (i + 1)
        rw [HS.out i hlt, tot_app] at h
        rw [plainR_len]
        have := HT.out
        simp [tot] at h this ⊢; omega
      have cW := fun w' h hb => Tryz.Builder_WriteString (w.heap.size + 1) (w.heap.size + 1) (Lib.byteCells (plainR (L.take i))) (ba (L.getD i default).t) w' h (by rw [Lib.byteCells_length, ba_size]; omega) hb
      have HP : Hid (plainR (L.take i) ++ (L.getD i default).t = plainR (L.take (i + 1))) := Lib.hid (by rw [HS.out i hlt, plainR_snoc])
      clear hR hl
      generalize L.getD i default = X at *
      go_wp2_with fail
      refine (cW _ (isb_stays HI.out (below1 _ (Nat.le_refl _))) (by simp; omega)).mono ?_
      rintro e w2 ⟨rfl, hB2, hb2⟩
      have HI2 := Lib.hid (isb_snoc hB2)
      have HB2 := Lib.hid ((HB.out.alloc HB.out.size (.cells #[.string (ba X.t), .int .u8 (X.c : Int), .bool X.i, .bool X.u, .string (ba X.r)] 111)).trans (hb2.mono (Nat.le_succ _)))
      have hz2 : w.heap.size + 1 ≤ w2.heap.size := by have := hb2.size; simp at this; omega
      rw [HP.out] at HI2
      clear hB2 hb2
      go_wp2_with fail
      go_roundw
      case rel => exact ⟨i + 1, by go_num, by omega, HI2, HB2, hz2⟩
      case measure => simp [intOf]; omega
    · obtain rfl : i = L.length := by omega
      have hI := HI.out
      rw [List.take_length] at hI
      have cS := fun w' h hb => Tryz.Builder_String_any (w.heap.size + 1) (w.heap.size + 1) (plainR L) w' h hb
      have HI := Lib.hid hI
      clear hI
      have hiz : ¬ (L.length : Int) < (L.length : Int) := by omega
      go_wp2_with fail
      refine (cS _ HI.out (by omega)).mono ?_
      rintro e w2 ⟨rfl, hb2⟩
      go_wp2_with fail
      go_ret
      exact ⟨rfl, HB.out.trans (hb2.mono (by omega))⟩
end Go.Proofs.YtgiaohccebolpaaGreatDoor
namespace Go.Proofs.YtgiaohccebolpaaGreatDoor
open Go Go.RowKit
open Go.Lib hiding intOf
set_option linter.unusedVariables false
/-! ### the length of a row -/
def lenFrom (s : Int) : Rw → Int
  | [] => s
  | x :: t => if lenC x.t < 0 then -1 else lenFrom (s + lenC x.t) t
def lenR (L : Rw) : Int := lenFrom 0 L
theorem lenFrom_cons (s : Int) (x : Rn) (t : Rw) : lenFrom s (x :: t) = if lenC x.t < 0 then -1 else lenFrom (s + lenC x.t) t := rfl
theorem lenC_range (l : List UInt8) : -1 ≤ lenC l ∧ lenC l ≤ l.length := by
  unfold lenC
  have := runes_length l
  split <;> omega
theorem lenFrom_range : ∀ (L : Rw) (s : Int), 0 ≤ s → -1 ≤ lenFrom s L ∧ lenFrom s L ≤ s + tot L
  | [], s, h => by simp [lenFrom, tot]; omega
  | x :: t, s, h => by
    rw [lenFrom_cons]
    have h1 := lenC_range x.t
    have ht : tot (x :: t) = x.t.length + tot t := by simp [tot]
    split
    · omega
    · have := lenFrom_range t (s + lenC x.t) (by omega)
      omega
set_option maxHeartbeats 8000000 in
set_option maxRecDepth 100000 in
theorem slen_any (v : Value) (L : Rw) (w : World) (hR : RunsR w v L) (hn : L.length ≤ 1048576) (hT : tot L ≤ 1048576) (hE : Env w) :
    Calls Tryz.prog 99 #[.agg #[v]] w fun e w' => e = .returned (.int .i64 (lenR L)) ∧ Below w.heap.size w w' := by
  obtain ⟨a, c, rfl⟩ := RowR.len hR
  obtain ⟨Z, hZ⟩ : ∃ Z, lenFrom 0 (L.drop 0) = Z := ⟨_, rfl⟩
  have e : lenR L = Z := by rw [← hZ, List.drop_zero]; rfl
  rw [e]
  have HZ := Lib.hid hZ
  have HR := Lib.hid hR
  have HD := Lib.hid (drop_cons L)
  have HT : Hid ((0 : Int) + tot (L.drop 0) ≤ 1048576) := Lib.hid (by rw [List.drop_zero]; omega)
  clear e hZ hR hT
  go_enter Tryz.func99, Tryz.ntmps99
  go_wp2_with fail
  go_loopw [10, 3] (fun v u wx => ∃ (i : Nat) (s : Int), v = .int .i64 i ∧ u = .int .i64 s ∧ i ≤ L.length ∧ 0 ≤ s ∧ s ≤ 1048576 ∧ Hid (lenFrom s (L.drop i) = Z) ∧ Hid (s + tot (L.drop i) ≤ 1048576) ∧ Below w.heap.size w wx) (fun v _ _ => L.length - (intOf v).toNat)
  case atStart => exact ⟨0, 0, rfl, rfl, Nat.zero_le _, by omega, by omega, HZ, HT, below1 _ (Nat.le_refl _)⟩
  case round =>
    clear HZ HT
    obtain ⟨i, s, rfl, rfl, hil, hs0, hs1, HZ, HT, hb⟩ := hrel
    have hsz := hb.size
    by_cases hlt : i < L.length
    · have hiz : (i : Int) < (L.length : Int) := by omega
      have hR := HR.out.below hb
      obtain ⟨g, off, rfl, hg, _⟩ := hR.addr (by omega)
      obtain ⟨c0, c1, c2, c3, c4⟩ := RunsR.at hR rfl i hlt
      have hz := HZ.out
      have ht := HT.out
      rw [HD.out i hlt] at hz ht
      rw [lenFrom_cons] at hz
      generalize L.getD i default = X at *
      have hts : tot (X :: L.drop (i + 1)) = X.t.length + tot (L.drop (i + 1)) := by simp [tot]
      have hlr := lenC_range X.t
      have cL := fun w' h => len_any (ba X.t) w' (by rw [ba_size]; omega) h
      rw [ba_data] at cL
      have hE2 := hE.below (hb.alloc hsz (.cells #[.string (ba X.t), .int .u8 (X.c : Int), .bool X.i, .bool X.u, .string (ba X.r)] 111))
      by_cases h0 : lenC X.t < 0
      · have HQ : Hid (-1 = Z) := Lib.hid (by rw [if_pos h0] at hz; exact hz)
        generalize lenC X.t = N at *
        clear hR hz ht HZ HT hts
        go_wp2_with fail
        refine (cL _ hE2).mono ?_
        rintro e w1 ⟨rfl, hb1⟩
        go_wp2_with fail
        go_ret
        exact ⟨ret_int HQ.out, below_grow (hb.alloc hsz _) (by simp; omega) hb1⟩
      · have HQ : Hid (lenFrom (s + lenC X.t) (L.drop (i + 1)) = Z) := Lib.hid (by rw [if_neg h0] at hz; exact hz)
        have HT2 : Hid (s + lenC X.t + tot (L.drop (i + 1)) ≤ 1048576) := Lib.hid (by omega)
        have hbd : s + lenC X.t ≤ 1048576 := by omega
        generalize lenC X.t = N at *
        clear hR hz ht HZ HT hts
        go_wp2_with fail
        refine (cL _ hE2).mono ?_
        rintro e w1 ⟨rfl, hb1⟩
        have hb2 := below_grow (hb.alloc hsz _) (by simp; omega) hb1
        go_wp2_with fail
        go_roundw
        case rel => exact ⟨i + 1, s + N, by go_num, rfl, by omega, by omega, by omega, HQ, HT2, hb2⟩
        case measure => simp [intOf]; omega
    · obtain rfl : i = L.length := by omega
      have hz := HZ.out
      rw [List.drop_length] at hz
      have HQ := Lib.hid hz
      clear hz HZ HT
      have hiz : ¬ (L.length : Int) < (L.length : Int) := by omega
      go_wp2_with fail
      go_ret
      exact ⟨ret_int HQ.out, hb⟩
/-! ### the lengths of the rows -/
theorem info3 : (Tryz.prog.info? 3).map (fun i => (i.zero, i.size, i.bytes)) = some (some (.int .i64 0), 1, 8) := by kernel_rfl
def rowsFit (L : List Rw) : Prop := ∀ r ∈ L, r.length ≤ 1048576 ∧ tot r ≤ 1048576
theorem icells_snoc (l : List Int) (x : Int) : icells (l ++ [x]) = icells l ++ [.int .i64 x] := by simp [icells]
set_option maxHeartbeats 8000000 in
set_option maxRecDepth 100000 in
theorem lens_any (id inn out : Int) (reg spk : ByteArray) (kind : Int) (v : Value) (L : List Rw) (w : World) (hR : RowsR w v L) (hn : L.length ≤ 1048576) (hf : rowsFit L) (hE : Env w) :
    Calls Tryz.prog 71 #[evV id inn out reg kind spk v] w (Made w.heap.size 3 1 L.length (icells (L.map lenR)) w) := by
  obtain ⟨i0, hi, iz0, iz1, iz2⟩ := info_parts info3
  obtain ⟨a, c, rfl⟩ := hR.len
  have HR := Lib.hid hR
  have HT := Lib.hid (take_succ L)
  have HF := Lib.hid hf
  clear hR hf
  go_enter Tryz.func71, Tryz.ntmps71
  go_wp2_with fail
  go_loopw [9, 3] (fun v u wx => ∃ i : Nat, v = .int .i64 i ∧ i ≤ L.length ∧ wx.ownsRow w.heap.size 3 1 u i (icells ((L.map lenR).take i)) ∧ Hid (Below w.heap.size w wx)) (fun v _ _ => L.length - (intOf v).toNat)
  case atStart => exact ⟨0, rfl, Nat.zero_le _, World.ownsRow_nil _ _ _ _, Lib.hid (below1 _ (Nat.le_refl _))⟩
  case round =>
    obtain ⟨i, rfl, hil, hown, HB⟩ := hrel
    have hsz := HB.out.size
    by_cases hlt : i < L.length
    · have hiz : (i : Int) < (L.length : Int) := by omega
      have hR := HR.out.below HB.out
      obtain ⟨g, off, rfl, hg⟩ := hR.addr (by omega)
      obtain ⟨u', c0, hu⟩ := hR.at rfl i hlt
      have hfit := HF.out (L.getD i []) (by rw [getD_of hlt]; exact List.getElem_mem hlt)
      have cL := fun w' h hE => slen_any u' (L.getD i []) w' h hfit.1 hfit.2 hE
      have hE2 := hE.below (HB.out.alloc hsz (.cells #[u'] 71))
      have HU := Lib.hid (RowR.alloc hu (.cells #[u'] 71))
      obtain ⟨au, cu, rfl⟩ := RowR.len hu
      have HS : Hid (icells ((L.map lenR).take i) ++ [.int .i64 (lenR (L.getD i []))] = icells ((L.map lenR).take (i + 1))) := Lib.hid (by rw [← List.map_take, ← List.map_take, HT.out i hlt, List.map_append]; exact (icells_snoc _ _).symm)
      clear hR hu
      generalize lenR (L.getD i []) = N at *
      generalize L.getD i [] = Y at *
      go_wp2_with fail
      refine (cL _ HU.out hE2).mono ?_
      rintro e w1 ⟨rfl, hb1⟩
      have hown1 := own_stays (hown.alloc (.cells #[Value.slice au Y.length cu] 71)) hb1
      have HB1 := Lib.hid (below_grow (HB.out.alloc hsz _) (by simp; omega) hb1)
      have hsz1 := HB1.out.size
      clear hown HB hb1 hsz c0
      go_wp2_with (at_builtin; refine wpList_append_row rfl _ _ 135 rfl w.heap.size 3 i0 _ 1 8 Tryz.underlying135 hi iz0 iz1 iz2 rfl (by decide) _ _ _ rfl (hown1.alloc _) _ 1 _ rfl (lit_row _ _ _ rfl rfl) (one_lit rfl) ?c3 ?c4 ?c5 ?_)
      case c3 => unfold maxLen; omega
      case c4 => omega
      case c5 => simp; omega
      intro v' w2 hown' hgrow _
      have hown2 : w2.ownsRow w.heap.size 3 1 v' (i + 1) (icells ((L.map lenR).take (i + 1))) := by rw [← HS.out]; exact hown'
      have HB2 := Lib.hid (app_step (hown1.alloc _) (HB1.out.alloc hsz1 _) (by simp; omega) hgrow)
      have HO := Lib.hid hown2
      clear hown' hown2 hgrow hown1
      go_wp2_with fail
      go_roundw
      case rel => exact ⟨i + 1, by go_num, by omega, HO.out, HB2⟩
      case measure => simp [intOf]; omega
    · obtain rfl : i = L.length := by omega
      rw [List.take_of_length_le (by simp)] at hown
      have hiz : ¬ (L.length : Int) < (L.length : Int) := by omega
      go_wp2_with fail
      go_ret
      exact ⟨_, rfl, hown, HB.out⟩
end Go.Proofs.YtgiaohccebolpaaGreatDoor
namespace Go.Proofs.YtgiaohccebolpaaGreatDoor
open Go Go.RowKit
open Go.Lib hiding intOf
set_option linter.unusedVariables false
/-! ### a row as the form carries it -/
def carX (x : Rn) : Rn := { x with c := 0, r := [] }
def carL (L : Rw) : Rw := L.map carX
def carR (L : Rw) : Rw := normR (carL L)
theorem tot_car (L : Rw) : tot (carL L) = tot L := by
  unfold tot carL
  rw [List.map_map]; rfl
theorem carL_len (L : Rw) : (carL L).length = L.length := by simp [carL]
theorem enc_take (L : Rw) (i : Nat) (h : i < L.length) : encL Rn.cells ((L.map carX).take i) ++ (carX (L.getD i default)).cells = encL Rn.cells ((L.map carX).take (i + 1)) := by
  rw [← List.map_take, ← List.map_take, take_succ L i h, List.map_append]
  exact (encL_snoc _ _).symm
set_option maxHeartbeats 8000000 in
set_option maxRecDepth 100000 in
theorem carried_any (v : Value) (L : Rw) (w : World) (hR : RunsR w v L) (hn : L.length ≤ 1048576) (hT : tot L ≤ 1048576) :
    Calls Tryz.prog 23 #[.agg #[v]] w (MadeRow w.heap.size (carR L) w) := by
  obtain ⟨i0, hi, iz0, iz1, iz2⟩ := info_parts info111
  obtain ⟨a, c, rfl⟩ := RowR.len hR
  have cN := fun v' w' h => Norm_any v' (carL L) w' h (by rw [carL_len]; exact hn) (by rw [tot_car]; exact hT)
  have HR := Lib.hid hR
  have HS := Lib.hid (enc_take L)
  clear hR hT
  go_enter Tryz.func23, Tryz.ntmps23
  go_wp2_with fail
  go_loopw [9] (fun v wx => ∃ (i : Nat) (va : Value), v = .int .i64 i ∧ i ≤ L.length ∧ Hid (wx.heap[w.heap.size + 2]? = some (.cells #[va] 71 (0, 0))) ∧ Hid (wx.heap[w.heap.size + 1]? = some (.cells #[.slice none 0 0] 71 (0, 0))) ∧ wx.ownsRow w.heap.size 111 5 va i (encL Rn.cells ((L.map carX).take i)) ∧ Hid (Below w.heap.size w wx)) (fun v _ => L.length - (intOf v).toNat)
  case atStart => exact ⟨0, _, rfl, Nat.zero_le _, Lib.hid (by have h := heap_alloc_new ((w.alloc (.cells #[.slice a L.length c] 71)).alloc (.cells #[.slice none 0 0] 71)) (.cells #[.slice none 0 0] 71); simp only [World.size_alloc] at h; exact h), Lib.hid (blk_stay (heap_alloc2_new w _ _) (below1 _ (Nat.le_refl _))), World.ownsRow_nil _ _ _ _, Lib.hid (((below1 _ (Nat.le_refl _)).alloc (by simp) _).alloc (by simp; omega) _)⟩
  case round =>
    obtain ⟨i, va, rfl, hil, HB1, HB0, hown, HB⟩ := hrel
    obtain ⟨o1, of1, olt1⟩ := blk1 HB1.out
    have of1 := of1 0
    have hsz := HB.out.size
    obtain ⟨av, cv, rfl⟩ := own_len hown
    by_cases hlt : i < L.length
    · have hiz : (i : Int) < (L.length : Int) := by omega
      have hR := HR.out.below HB.out
      obtain ⟨g, off, rfl, hg, _⟩ := hR.addr (by omega)
      obtain ⟨c0, c1, c2, c3, c4⟩ := RunsR.at hR rfl i hlt
      have HS2 := Lib.hid (HS.out i hlt)
      clear hR
      generalize L.getD i default = X at *
      go_wp2_with (at_builtin; refine wpList_append_row rfl _ _ 69 rfl w.heap.size 111 i0 _ 5 40 Tryz.underlying69 hi iz0 iz1 iz2 rfl (by decide) _ _ _ rfl ((hown.alloc _).alloc _) _ 1 _ rfl (lit_row _ _ _ (by simp) rfl) (one_lit rfl) ?c3 ?c4 ?c5 ?_)
      case c3 => unfold maxLen; omega
      case c4 => omega
      case c5 => omega
      intro v' w2 hown' hgrow _
      obtain ⟨av', cv', rfl⟩ := own_len hown'
      have hown2 : w2.ownsRow w.heap.size 111 5 (.slice av' (i + 1) cv') (i + 1) (encL Rn.cells ((L.map carX).take (i + 1))) := by rw [← HS2.out]; exact hown'
      have R1 := Lib.hid (app_grow HB1.out ((below1 _ (Nat.le_refl _)).alloc (by simp) _) ((hown.alloc _).alloc _) (by decide) hgrow)
      have R0 := Lib.hid (app_grow HB0.out ((below1 _ (Nat.le_refl _)).alloc (by simp) _) ((hown.alloc _).alloc _) (by decide) hgrow)
      have HB2 := Lib.hid (app_step ((hown.alloc _).alloc _) ((HB.out.alloc hsz _).alloc (by simp; omega) _) (by simp; omega) hgrow)
      have HO := Lib.hid hown2
      clear hown hown' hown2 hgrow o1 of1 olt1 c0 c1 c2 c3 c4 HB1 HB0 HB
      obtain ⟨o1, of1, olt1⟩ := blk1 R1.out
      have of1 := of1 0
      go_wp2_with fail
      go_roundw
      case rel => exact ⟨i + 1, _, by go_num, by omega, Lib.hid (blk_set R1.out), Lib.hid (blk_other R0.out (Nat.ne_of_lt (Nat.lt_succ_self _))), row_far (by decide) R1.out HO.out, Lib.hid (HB2.out.setCell (by simp; omega) _)⟩
      case measure => simp [intOf]; omega
    · obtain rfl : i = L.length := by omega
      rw [List.take_of_length_le (by simp)] at hown
      have hiz : ¬ (L.length : Int) < (L.length : Int) := by omega
      have hRc : RunsR wr (.slice av L.length cv) (carL L) := by
        have h := RowR.of_own hown
        unfold RunsR
        rw [carL_len]; exact h
      have HRc := Lib.hid hRc
      clear hRc hown
      go_wp2_with fail
      refine (cN _ _ HRc.out).mono ?_
      rintro e w1 ⟨va, rfl, ho, hb⟩
      obtain ⟨av2, cv2, rfl⟩ := own_len ho
      have R0 := Lib.hid (blk_stay HB0.out hb)
      obtain ⟨p1, pf1, plt1⟩ := blk1 R0.out
      have pf1 := pf1 0
      have HO := Lib.hid ho
      have HB2 := Lib.hid (below_grow HB.out hsz hb)
      clear ho hb o1 of1 olt1
      go_wp2_with fail
      exact bodyPost_ret (results_cell_row Tryz.results23 _ _ _ _ _ _ _ rfl (blk_set R0.out) Tryz.underlying71 rfl (by kernel_rfl)) rfl ⟨_, rfl, own_low (row_far (by decide) R0.out HO.out) (by omega), HB2.out.setCell (Nat.le_succ _) _⟩
end Go.Proofs.YtgiaohccebolpaaGreatDoor
