import Derived.Test.YtgiaohccebolpaaGreatDoorQ21
namespace Go.Proofs.YtgiaohccebolpaaGreatDoor
open Go Go.RowKit
open Go.Lib hiding intOf
set_option linter.unusedVariables false
/-! ### houseFew -/
def fewD (d : Dc) : Dc := { d with evs := d.evs.take 4, cms := d.cms.take 3, regs := d.regs.take 4 }
theorem EvsR.take {w : World} {n c m : Nat} {a : Option Addr} {L : List Ev} (h : EvsR w (.slice a n c) L) (hn : n = L.length) (hm : m ≤ n) : EvsR w (.slice a m c) (L.take m) := by
  subst hn
  obtain ⟨p, hp, h1, h2⟩ := h
  have hpl : p.length = L.length := by rw [← hp, List.length_map]
  refine ⟨p.take m, by rw [List.map_take, hp], ?_, fun x hx => h2 x (List.mem_of_mem_take hx)⟩
  have := RowR.take (k := 7) (enc := fun x : Ev × Value => evCells x.1 x.2) (fun _ => rfl) h1 hm
  rwa [List.length_take, Nat.min_eq_left hm]
theorem take_least {α : Type} (l : List α) (k : Nat) : l.take (min l.length k) = l.take k := by
  rcases Nat.le_total l.length k with h | h
  · rw [Nat.min_eq_left h, List.take_of_length_le (Nat.le_refl _), List.take_of_length_le h]
  · rw [Nat.min_eq_right h]
theorem exit_drew {K : Exit → Act → World → Prop} {e : Exit} {a : Act} {X : World} (F : World → Prop) (h : F X) (k : ∀ W, F W → K e a W.drew) : K e a X.drew := k X h
set_option maxHeartbeats 4000000 in
set_option maxRecDepth 100000 in
theorem few_any (v : Value) (d : Dc) (w0 w : World) (hV : DocV w0 v d) (h1 : d.evs.length ≤ 1048576) (h2 : d.cms.length ≤ 1048576) (h3 : d.regs.length ≤ 1048576) :
    Calls Tryz.prog 4 #[v] w fun e w' => ∃ v', e = .returned v' ∧ DocV w0 v' (fewD d) ∧ Below w.heap.size w w' := by
  obtain ⟨vg, ve, vc, rfl, hG, hVe, hC⟩ := hV
  obtain ⟨ag, cg, rfl⟩ := RowR.len hG
  obtain ⟨a, c, rfl⟩ := hVe.len
  obtain ⟨ac, cc, rfl⟩ := RowR.len hC
  have kg := hG.cap
  have ke : d.evs.length ≤ c := by obtain ⟨p, _, hh, _⟩ := hVe; exact hh.cap
  have kc := hC.cap
  have HG := Lib.hid hG
  have HE := Lib.hid hVe
  have HC := Lib.hid hC
  have h0 := heap_alloc2_old w (.cells #[.string (ba d.title), .string (ba d.lang), .int .u8 (d.rate : Int), .bool d.drop, .int .i64 d.last, .slice ag d.regs.length cg, .slice a d.evs.length c, .slice ac d.cms.length cc] 27) (.cells zer27 27)
  have h1' := heap_alloc2_new w (.cells #[.string (ba d.title), .string (ba d.lang), .int .u8 (d.rate : Int), .bool d.drop, .int .i64 d.last, .slice ag d.regs.length cg, .slice a d.evs.length c, .slice ac d.cms.length cc] 27) (.cells zer27 27)
  have hb := ((below1 (.cells #[.string (ba d.title), .string (ba d.lang), .int .u8 (d.rate : Int), .bool d.drop, .int .i64 d.last, .slice ag d.regs.length cg, .slice a d.evs.length c, .slice ac d.cms.length cc] 27) (Nat.le_refl w.heap.size)).alloc (by simp) (.cells zer27 27))
  clear hG hVe hC
  obtain ⟨ne, hne⟩ : ∃ n : Nat, n = min d.evs.length 4 := ⟨_, rfl⟩
  obtain ⟨nc, hnc⟩ : ∃ n : Nat, n = min d.cms.length 3 := ⟨_, rfl⟩
  obtain ⟨ng, hng⟩ : ∃ n : Nat, n = min d.regs.length 4 := ⟨_, rfl⟩
  have me : min (d.evs.length : Int) 4 = (ne : Int) := by omega
  have mc : min (d.cms.length : Int) 3 = (nc : Int) := by omega
  have mg : min (d.regs.length : Int) 4 = (ng : Int) := by omega
  have le1 : (ne : Int) ≤ (c : Int) := by omega
  have lc1 : (nc : Int) ≤ (cc : Int) := by omega
  have lg1 : (ng : Int) ≤ (cg : Int) := by omega
  have HNE := Lib.hid hne
  have HNC := Lib.hid hnc
  have HNG := Lib.hid hng
  clear hne hnc hng
  go_enter Tryz.func4, Tryz.ntmps4
  go_wp2_with fail
  refine world_as (fun W => W.heap[w.heap.size]? = some (.cells #[.string (ba d.title), .string (ba d.lang), .int .u8 (d.rate : Int), .bool d.drop, .int .i64 d.last, .slice ag d.regs.length cg, .slice a d.evs.length c, .slice ac d.cms.length cc] 27 (0, 0)) ∧ W.heap[w.heap.size + 1]? = some (.cells zer27 27 (0, 0)) ∧ Below w.heap.size w W) ⟨h0, h1', hb⟩ ?_
  rintro W ⟨h0, h1', hb⟩
  obtain ⟨d0, d1, d2, d3, d4, d5, d6, d7, df, dl⟩ := blk8 h0
  have HR0 := Lib.hid h0
  have HR1 := Lib.hid h1'
  have HB := Lib.hid hb
  clear h0 h1' hb
  refine wp_region_S 21 (S := (fun w' => w'.cell? ⟨w.heap.size, 5, none⟩ = some (.slice ag d.regs.length cg) ∧ w'.cell? ⟨w.heap.size, 6, none⟩ = some (.slice a d.evs.length c) ∧ w'.cell? ⟨w.heap.size, 7, none⟩ = some (.slice ac d.cms.length cc))) (by kernel_rfl) ⟨d5, d6, d7⟩ (fun hHeld => ?_)
  simp only [List.size_toArray, List.length_cons, List.length_nil, Nat.zero_add, Nat.reduceAdd]
  refine wpAnyS_pure (i := 0) (v := ?v0) rfl (by kernel_rfl) (by kernel_rfl) (by kernel_rfl) (fun _ _ _ h => h) (Or.inl ⟨by rfl, ?y0⟩) ?r0
  case y0 =>
    intro w hSw
    (try dsimp only at hSw)
    go_simp
    all_goals (with_reducible rfl)
  try simp only [Act.put, List.setIfInBounds_toArray, List.set_cons_zero, List.set_cons_succ]
  refine wpAnyS_take (i := 1) (v := ?v1) rfl (by kernel_rfl) (by kernel_rfl) (by kernel_rfl) (by kernel_rfl) (fun _ _ _ h => h) (Or.inl ⟨by rfl, ?y1⟩) (by assumption) ?r1
  case y1 =>
    intro w hSw
    (try dsimp only at hSw)
    go_simp
    all_goals (with_reducible rfl)
  try simp only [Act.put, List.setIfInBounds_toArray, List.set_cons_zero, List.set_cons_succ]
  refine wpAnyS_pure (i := 2) (v := ?v2) rfl (by kernel_rfl) (by kernel_rfl) (by kernel_rfl) (fun _ _ _ h => h) (Or.inl ⟨by rfl, ?y2⟩) ?r2
  case y2 =>
    intro w hSw
    (try dsimp only at hSw)
    go_simp
    all_goals (with_reducible rfl)
  try simp only [Act.put, List.setIfInBounds_toArray, List.set_cons_zero, List.set_cons_succ]
  refine wpAnyS_take (i := 3) (v := ?v3) rfl (by kernel_rfl) (by kernel_rfl) (by kernel_rfl) (by kernel_rfl) (fun _ _ _ h => h) (Or.inl ⟨by rfl, ?y3⟩) (by assumption) ?r3
  case y3 =>
    intro w hSw
    (try dsimp only at hSw)
    go_simp
    all_goals (with_reducible rfl)
  try simp only [Act.put, List.setIfInBounds_toArray, List.set_cons_zero, List.set_cons_succ]
  refine wpAnyS_pure (i := 4) (v := ?v4) rfl (by kernel_rfl) (by kernel_rfl) (by kernel_rfl) (fun _ _ _ h => h) (Or.inl ⟨by rfl, ?y4⟩) ?r4
  case y4 =>
    intro w hSw
    (try dsimp only at hSw)
    go_simp
    all_goals (with_reducible rfl)
  try simp only [Act.put, List.setIfInBounds_toArray, List.set_cons_zero, List.set_cons_succ]
  refine wpAnyS_pure (i := 5) (v := ?v5) rfl (by kernel_rfl) (by kernel_rfl) (by kernel_rfl) (fun _ _ _ h => h) (Or.inl ⟨by rfl, ?y5⟩) ?r5
  case y5 =>
    intro w hSw
    (try dsimp only at hSw)
    go_simp
    all_goals (with_reducible rfl)
  try simp only [Act.put, List.setIfInBounds_toArray, List.set_cons_zero, List.set_cons_succ]
  refine wpAnyS_pure (i := 6) (v := ?v6) rfl (by kernel_rfl) (by kernel_rfl) (by kernel_rfl) (fun _ _ _ h => h) (Or.inl ⟨by rfl, ?y6⟩) ?r6
  case y6 =>
    intro w hSw
    (try dsimp only at hSw)
    go_simp
    all_goals (with_reducible rfl)
  try simp only [Act.put, List.setIfInBounds_toArray, List.set_cons_zero, List.set_cons_succ]
  refine wpAnyS_pure (i := 7) (v := ?v7) rfl (by kernel_rfl) (by kernel_rfl) (by kernel_rfl) (fun _ _ _ h => h) (Or.inl ⟨by rfl, ?y7⟩) ?r7
  case y7 =>
    intro w hSw
    (try dsimp only at hSw)
    go_simp
    all_goals (with_reducible rfl)
  try simp only [Act.put, List.setIfInBounds_toArray, List.set_cons_zero, List.set_cons_succ]
  refine wpAnyS_take (i := 8) (v := ?v8) rfl (by kernel_rfl) (by kernel_rfl) (by kernel_rfl) (by kernel_rfl) (fun _ _ _ h => h) (Or.inl ⟨by rfl, ?y8⟩) (by assumption) ?r8
  case y8 =>
    intro w hSw
    (try dsimp only at hSw)
    go_simp
    all_goals (with_reducible rfl)
  try simp only [Act.put, List.setIfInBounds_toArray, List.set_cons_zero, List.set_cons_succ]
  refine wpAnyS_pure (i := 9) (v := ?v9) rfl (by kernel_rfl) (by kernel_rfl) (by kernel_rfl) (fun _ _ _ h => h) (Or.inl ⟨by rfl, ?y9⟩) ?r9
  case y9 =>
    intro w hSw
    (try dsimp only at hSw)
    go_simp
    all_goals (with_reducible rfl)
  try simp only [Act.put, List.setIfInBounds_toArray, List.set_cons_zero, List.set_cons_succ]
  refine wpAnyS_take (i := 10) (v := ?v10) rfl (by kernel_rfl) (by kernel_rfl) (by kernel_rfl) (by kernel_rfl) (fun _ _ _ h => h) (Or.inl ⟨by rfl, ?y10⟩) (by assumption) ?r10
  case y10 =>
    intro w hSw
    (try dsimp only at hSw)
    go_simp
    all_goals (with_reducible rfl)
  try simp only [Act.put, List.setIfInBounds_toArray, List.set_cons_zero, List.set_cons_succ]
  refine wpAnyS_pure (i := 11) (v := ?v11) rfl (by kernel_rfl) (by kernel_rfl) (by kernel_rfl) (fun _ _ _ h => h) (Or.inl ⟨by rfl, ?y11⟩) ?r11
  case y11 =>
    intro w hSw
    (try dsimp only at hSw)
    go_simp
    all_goals (with_reducible rfl)
  try simp only [Act.put, List.setIfInBounds_toArray, List.set_cons_zero, List.set_cons_succ]
  refine wpAnyS_pure (i := 12) (v := ?v12) rfl (by kernel_rfl) (by kernel_rfl) (by kernel_rfl) (fun _ _ _ h => h) (Or.inl ⟨by rfl, ?y12⟩) ?r12
  case y12 =>
    intro w hSw
    (try dsimp only at hSw)
    go_simp
    all_goals (with_reducible rfl)
  try simp only [Act.put, List.setIfInBounds_toArray, List.set_cons_zero, List.set_cons_succ]
  refine wpAnyS_pure (i := 13) (v := ?v13) rfl (by kernel_rfl) (by kernel_rfl) (by kernel_rfl) (fun _ _ _ h => h) (Or.inl ⟨by rfl, ?y13⟩) ?r13
  case y13 =>
    intro w hSw
    (try dsimp only at hSw)
    go_simp
    all_goals (with_reducible rfl)
  try simp only [Act.put, List.setIfInBounds_toArray, List.set_cons_zero, List.set_cons_succ]
  refine wpAnyS_pure (i := 14) (v := ?v14) rfl (by kernel_rfl) (by kernel_rfl) (by kernel_rfl) (fun _ _ _ h => h) (Or.inl ⟨by rfl, ?y14⟩) ?r14
  case y14 =>
    intro w hSw
    (try dsimp only at hSw)
    go_simp
    all_goals (with_reducible rfl)
  try simp only [Act.put, List.setIfInBounds_toArray, List.set_cons_zero, List.set_cons_succ]
  refine wpAnyS_take (i := 15) (v := ?v15) rfl (by kernel_rfl) (by kernel_rfl) (by kernel_rfl) (by kernel_rfl) (fun _ _ _ h => h) (Or.inl ⟨by rfl, ?y15⟩) (by assumption) ?r15
  case y15 =>
    intro w hSw
    (try dsimp only at hSw)
    go_simp
    all_goals (with_reducible rfl)
  try simp only [Act.put, List.setIfInBounds_toArray, List.set_cons_zero, List.set_cons_succ]
  refine wpAnyS_pure (i := 16) (v := ?v16) rfl (by kernel_rfl) (by kernel_rfl) (by kernel_rfl) (fun _ _ _ h => h) (Or.inl ⟨by rfl, ?y16⟩) ?r16
  case y16 =>
    intro w hSw
    (try dsimp only at hSw)
    go_simp
    all_goals (with_reducible rfl)
  try simp only [Act.put, List.setIfInBounds_toArray, List.set_cons_zero, List.set_cons_succ]
  refine wpAnyS_take (i := 17) (v := ?v17) rfl (by kernel_rfl) (by kernel_rfl) (by kernel_rfl) (by kernel_rfl) (fun _ _ _ h => h) (Or.inl ⟨by rfl, ?y17⟩) (by assumption) ?r17
  case y17 =>
    intro w hSw
    (try dsimp only at hSw)
    go_simp
    all_goals (with_reducible rfl)
  try simp only [Act.put, List.setIfInBounds_toArray, List.set_cons_zero, List.set_cons_succ]
  refine wpAnyS_pure (i := 18) (v := ?v18) rfl (by kernel_rfl) (by kernel_rfl) (by kernel_rfl) (fun _ _ _ h => h) (Or.inl ⟨by rfl, ?y18⟩) ?r18
  case y18 =>
    intro w hSw
    (try dsimp only at hSw)
    go_simp
    all_goals (with_reducible rfl)
  try simp only [Act.put, List.setIfInBounds_toArray, List.set_cons_zero, List.set_cons_succ]
  refine wpAnyS_pure (i := 19) (v := ?v19) rfl (by kernel_rfl) (by kernel_rfl) (by kernel_rfl) (fun _ _ _ h => h) (Or.inl ⟨by rfl, ?y19⟩) ?r19
  case y19 =>
    intro w hSw
    (try dsimp only at hSw)
    go_simp
    all_goals (with_reducible rfl)
  try simp only [Act.put, List.setIfInBounds_toArray, List.set_cons_zero, List.set_cons_succ]
  refine wpAnyS_pure (i := 20) (v := ?v20) rfl (by kernel_rfl) (by kernel_rfl) (by kernel_rfl) (fun _ _ _ h => h) (Or.inl ⟨by rfl, ?y20⟩) ?r20
  case y20 =>
    intro w hSw
    (try dsimp only at hSw)
    go_simp
    all_goals (with_reducible rfl)
  try simp only [Act.put, List.setIfInBounds_toArray, List.set_cons_zero, List.set_cons_succ]
  refine wpAnyS_pure (i := 21) (v := ?v21) rfl (by kernel_rfl) (by kernel_rfl) (by kernel_rfl) (fun _ _ _ h => h) (Or.inl ⟨by rfl, ?y21⟩) ?r21
  case y21 =>
    intro w hSw
    (try dsimp only at hSw)
    go_simp
    all_goals (with_reducible rfl)
  try simp only [Act.put, List.setIfInBounds_toArray, List.set_cons_zero, List.set_cons_succ]
  refine wpAnyS_last (i := 22) (by kernel_rfl) rfl (by omega) (fun K hK => ?_)
  go_simp
  refine hK.out _ _ ?_
  clear hK K
  try simp only [Act.put, List.setIfInBounds_toArray, List.set_cons_zero, List.set_cons_succ]
  refine wpAnyS_pure (i := 23) (v := ?v23) rfl (by kernel_rfl) (by kernel_rfl) (by kernel_rfl) (fun _ _ _ h => h) (Or.inl ⟨by rfl, ?y23⟩) ?r23
  case y23 =>
    intro w hSw
    (try dsimp only at hSw)
    go_simp
    all_goals (with_reducible rfl)
  try simp only [Act.put, List.setIfInBounds_toArray, List.set_cons_zero, List.set_cons_succ]
  refine wpAnyS_last (i := 24) (by kernel_rfl) rfl (by omega) (fun K hK => ?_)
  go_simp
  refine hK.out _ _ ?_
  clear hK K
  try simp only [Act.put, List.setIfInBounds_toArray, List.set_cons_zero, List.set_cons_succ]
  refine wpAnyS_pure (i := 25) (v := ?v25) rfl (by kernel_rfl) (by kernel_rfl) (by kernel_rfl) (fun _ _ _ h => h) (Or.inl ⟨by rfl, ?y25⟩) ?r25
  case y25 =>
    intro w hSw
    (try dsimp only at hSw)
    go_simp
    all_goals (with_reducible rfl)
  try simp only [Act.put, List.setIfInBounds_toArray, List.set_cons_zero, List.set_cons_succ]
  refine wpAnyS_last (i := 26) (by kernel_rfl) rfl (by omega) (fun K hK => ?_)
  go_simp
  refine hK.out _ _ ?_
  clear hK K
  try simp only [Act.put, List.setIfInBounds_toArray, List.set_cons_zero, List.set_cons_succ]
  refine wpAnyS_done (by kernel_rfl) ?_ _
  clear d0 d1 d2 d3 d4 d5 d6 d7 df dl hHeld
  have R6 := blk_set (o := 6) (u := .slice a ne c) HR0.out
  have R7 := blk_set (o := 7) (u := .slice ac nc cc) R6
  have hne01 : w.heap.size + 1 ≠ w.heap.size := by omega
  refine exit_drew (fun W' => W'.heap[w.heap.size]? = some (.cells #[.string (ba d.title), .string (ba d.lang), .int .u8 (d.rate : Int), .bool d.drop, .int .i64 d.last, .slice ag ng cg, .slice a ne c, .slice ac nc cc] 27 (0, 0)) ∧ W'.heap[w.heap.size + 1]? = some (.cells zer27 27 (0, 0)) ∧ Below w.heap.size w W') ⟨blk_set (o := 5) (u := .slice ag ng cg) R7, blk_other (blk_other (blk_other HR1.out hne01) hne01) hne01, ((HB.out.setCell (p := ⟨w.heap.size, 6, none⟩) (Nat.le_refl _) _).setCell (p := ⟨w.heap.size, 7, none⟩) (Nat.le_refl _) _).setCell (p := ⟨w.heap.size, 5, none⟩) (Nat.le_refl _) _⟩ ?_
  rintro W' ⟨q0, q1, qb⟩
  obtain ⟨d0, d1, d2, d3, d4, d5, d6, d7, df, dl⟩ := blk8 q0
  obtain ⟨f0, f1, f2, f3, f4, f5, f6, f7, ff, fl⟩ := blk8 q1
  have HQ1 := Lib.hid q1
  have HQB := Lib.hid qb
  clear q0 q1 qb R6 R7 HR0 HR1 HB
  go_wp2_with fail
  refine post_drew (fun W2 => W2.heap[w.heap.size + 1]? = some (.cells #[.string (ba d.title), .string (ba d.lang), .int .u8 (d.rate : Int), .bool d.drop, .int .i64 d.last, .slice ag ng cg, .slice a ne c, .slice ac nc cc] 27 (0, 0)) ∧ Below w.heap.size w W2) ⟨set8 HQ1.out, below8 HQB.out (Nat.le_succ _)⟩ ?_
  rintro W2 ⟨q1, q2⟩
  have hbf : Below w.heap.size w W2.drew := q2.drew
  have t1 : (fewD d).regs.length = ng := by show (d.regs.take 4).length = ng; rw [List.length_take, HNG.out, Nat.min_comm]
  have t2 : (fewD d).evs.length = ne := by show (d.evs.take 4).length = ne; rw [List.length_take, HNE.out, Nat.min_comm]
  have t3 : (fewD d).cms.length = nc := by show (d.cms.take 3).length = nc; rw [List.length_take, HNC.out, Nat.min_comm]
  have e1 : d.regs.take ng = (fewD d).regs := by rw [HNG.out]; exact take_least _ _
  have e2 : d.evs.take ne = (fewD d).evs := by rw [HNE.out]; exact take_least _ _
  have e3 : d.cms.take nc = (fewD d).cms := by rw [HNC.out]; exact take_least _ _
  have g1 := RowR.take Rg.cells_len HG.out (m := ng) (by have := HNG.out; omega)
  have g2 := EvsR.take HE.out rfl (m := ne) (by have := HNE.out; omega)
  have g3 := RowR.take Cm.cells_len HC.out (m := nc) (by have := HNC.out; omega)
  rw [e1] at g1
  rw [e2] at g2
  rw [e3] at g3
  have k1 : RgsR w0 (.slice ag ng cg) (fewD d).regs := by unfold RgsR; rw [t1]; exact g1
  have k3 : CmsR w0 (.slice ac nc cc) (fewD d).cms := by unfold CmsR; rw [t3]; exact g3
  exact bodyPost_ret (results_cell_row Tryz.results4 _ W2.drew (w.heap.size + 1) _ _ _ _ rfl q1 Tryz.underlying27 rfl (by kernel_rfl)) rfl ⟨_, rfl, ⟨.slice ag ng cg, .slice a ne c, .slice ac nc cc, rfl, k1, g2, k3⟩, hbf⟩
end Go.Proofs.YtgiaohccebolpaaGreatDoor
