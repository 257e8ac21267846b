import Derived.Test.YtgiaohccebolpaaGreatDoorQ21
namespace Go.Proofs.YtgiaohccebolpaaGreatDoor
open Go Go.RowKit
open Go.Lib hiding intOf
set_option linter.unusedVariables false
/-! ### houseFew -/
def fewD (d : Dc) : Dc := { d with evs := d.evs.take 4, cms := d.cms.take 3, regs := d.regs.take 4 }
theorem EvsR.take {w : World} {n c m : Nat} {a : Option Addr} {L : List Ev} (h : EvsR w (.slice a n c) L) (hn : n = L.length) (hm : m ≤ n) : EvsR w (.slice a m c) (L.take m) := by
  subst hn
  obtain ⟨p, hp, h1, h2⟩ := h
  have hpl : p.length = L.length := by rw [← hp, List.length_map]
  refine ⟨p.take m, by rw [List.map_take, hp], ?_, fun x hx => h2 x (List.mem_of_mem_take hx)⟩
  have := RowR.take (k := 7) (enc := fun x : Ev × Value => evCells x.1 x.2) (fun _ => rfl) h1 hm
  rwa [List.length_take, Nat.min_eq_left hm]
theorem take_least {α : Type} (l : List α) (k : Nat) : l.take (min l.length k) = l.take k := by
  rcases Nat.le_total l.length k with h | h
  · rw [Nat.min_eq_left h, List.take_of_length_le (Nat.le_refl _), List.take_of_length_le h]
  · rw [Nat.min_eq_right h]
theorem exit_drew {K : Exit → Act → World → Prop} {e : Exit} {a : Act} {X : World} (F : World → Prop) (h : F X) (k : ∀ W, F W → K e a W.drew) : K e a X.drew := k X h
set_option maxHeartbeats 4000000 in
set_option maxRecDepth 100000 in
theorem few_any (v : Value) (d : Dc) (w0 w : World) (hV : DocV w0 v d) (h1 : d.evs.length ≤ 1048576) (h2 : d.cms.length ≤ 1048576) (h3 : d.regs.length ≤ 1048576) :
    Calls Tryz.prog 4 #[v] w fun e w' => ∃ v', e = .returned v' ∧ DocV w0 v' (fewD d) ∧ Below w.heap.size w w' := by
  obtain ⟨vg, ve, vc, rfl, hG, hVe, hC⟩ := hV
  obtain ⟨ag, cg, rfl⟩ := RowR.len hG
  obtain ⟨a, c, rfl⟩ := hVe.len
  obtain ⟨ac, cc, rfl⟩ := RowR.len hC
  have kg := hG.cap
  have ke : d.evs.length ≤ c := by obtain ⟨p, _, hh, _⟩ := hVe; exact hh.cap
  have kc := hC.cap
  have HG := Lib.hid hG
  have HE := Lib.hid hVe
  have HC := Lib.hid hC
  have h0 := heap_alloc2_old w (.cells #[.string (ba d.title), .string (ba d.lang), .int .u8 (d.rate : Int), .bool d.drop, .int .i64 d.last, .slice ag d.regs.length cg, .slice a d.evs.length c, .slice ac d.cms.length cc] 27) (.cells zer27 27)
  have h1' := heap_alloc2_new w (.cells #[.string (ba d.title), .string (ba d.lang), .int .u8 (d.rate : Int), .bool d.drop, .int .i64 d.last, .slice ag d.regs.length cg, .slice a d.evs.length c, .slice ac d.cms.length cc] 27) (.cells zer27 27)
  have hb := ((below1 (.cells #[.string (ba d.title), .string (ba d.lang), .int .u8 (d.rate : Int), .bool d.drop, .int .i64 d.last, .slice ag d.regs.length cg, .slice a d.evs.length c, .slice ac d.cms.length cc] 27) (Nat.le_refl w.heap.size)).alloc (by simp) (.cells zer27 27))
  clear hG hVe hC
  obtain ⟨ne, hne⟩ : ∃ n : Nat, n = min d.evs.length 4 := ⟨_, rfl⟩
  obtain ⟨nc, hnc⟩ : ∃ n : Nat, n = min d.cms.length 3 := ⟨_, rfl⟩
  obtain ⟨ng, hng⟩ : ∃ n : Nat, n = min d.regs.length 4 := ⟨_, rfl⟩
  have me : min (d.evs.length : Int) 4 = (ne : Int) := by omega
  have mc : min (d.cms.length : Int) 3 = (nc : Int) := by omega
  have mg : min (d.regs.length : Int) 4 = (ng : Int) := by omega
  have le1 : (ne : Int) ≤ (c : Int) := by omega
  have lc1 : (nc : Int) ≤ (cc : Int) := by omega
  have lg1 : (ng : Int) ≤ (cg : Int) := by omega
  have HNE := Lib.hid hne
  have HNC := Lib.hid hnc
  have HNG := Lib.hid hng
  clear hne hnc hng
  go_enter Tryz.func4, Tryz.ntmps4
  go_wp2_with fail
  refine world_as (fun W => W.heap[w.heap.size]? = some (.cells #[.string (ba d.title), .string (ba d.lang), .int .u8 (d.rate : Int), .bool d.drop, .int .i64 d.last, .slice ag d.regs.length cg, .slice a d.evs.length c, .slice ac d.cms.length cc] 27 (0, 0)) ∧ W.heap[w.heap.size + 1]? = some (.cells zer27 27 (0, 0)) ∧ Below w.heap.size w W) ⟨h0, h1', hb⟩ ?_
  rintro W ⟨h0, h1', hb⟩
  obtain ⟨d0, d1, d2, d3, d4, d5, d6, d7, df, dl⟩ := blk8 h0
  have HR0 := Lib.hid h0
  have HR1 := Lib.hid h1'
  have HB := Lib.hid hb
  clear h0 h1' hb
  refine wp_region_S 21 (S := (fun w' => w'.cell? ⟨w.heap.size, 5, none⟩ = some (.slice ag d.regs.length cg) ∧ w'.cell? ⟨w.heap.size, 6, none⟩ = some (.slice a d.evs.length c) ∧ w'.cell? ⟨w.heap.size, 7, none⟩ = some (.slice ac d.cms.length cc))) (by kernel_rfl) ⟨d5, d6, d7⟩ (fun hHeld => ?_)
  simp only [List.size_toArray, List.length_cons, List.length_nil, Nat.zero_add, Nat.reduceAdd]
  refine wpAnyS_pure (i := 0) (oi := { dst := some 3, op := Go.Op.fieldAddr 27 (Go.Operand.tmp 1) 6, type := 0, pos := "top10.go:12", after := #[], guard := none }) (v := ?v0) rfl (by kernel_rfl) (by kernel_rfl) (by kernel_rfl) (fun _ _ _ h => h) (Or.inl ⟨by rfl, ?y0⟩) ?r0
  case y0 =>
    intro w hSw
    (try dsimp only at hSw)
    go_simp
    all_goals (with_reducible rfl)
  try simp only [Act.put, List.setIfInBounds_toArray, List.set_cons_zero, List.set_cons_succ]
  refine wpAnyS_take (i := 1) (oi := { dst := some 4, op := Go.Op.load 24 (Go.Operand.tmp 3), type := 24, pos := "top10.go:12", after := #[{ on := 0, ground := Go.Ground.data }], guard := none }) (v := ?v1) rfl (by kernel_rfl) (by kernel_rfl) (by kernel_rfl) (by kernel_rfl) (fun _ _ _ h => h) (Or.inl ⟨by rfl, ?y1⟩) (by assumption) ?r1
  case y1 =>
    intro w hSw
    (try dsimp only at hSw)
    go_simp
    all_goals (with_reducible rfl)
  try simp only [Act.put, List.setIfInBounds_toArray, List.set_cons_zero, List.set_cons_succ]
  refine wpAnyS_pure (i := 2) (oi := { dst := some 5, op := Go.Op.fieldAddr 27 (Go.Operand.tmp 1) 6, type := 0, pos := "top10.go:12", after := #[], guard := none }) (v := ?v2) rfl (by kernel_rfl) (by kernel_rfl) (by kernel_rfl) (fun _ _ _ h => h) (Or.inl ⟨by rfl, ?y2⟩) ?r2
  case y2 =>
    intro w hSw
    (try dsimp only at hSw)
    go_simp
    all_goals (with_reducible rfl)
  try simp only [Act.put, List.setIfInBounds_toArray, List.set_cons_zero, List.set_cons_succ]
  refine wpAnyS_take (i := 3) (oi := { dst := some 6, op := Go.Op.load 24 (Go.Operand.tmp 5), type := 24, pos := "top10.go:12", after := #[{ on := 2, ground := Go.Ground.data }], guard := none }) (v := ?v3) rfl (by kernel_rfl) (by kernel_rfl) (by kernel_rfl) (by kernel_rfl) (fun _ _ _ h => h) (Or.inl ⟨by rfl, ?y3⟩) (by assumption) ?r3
  case y3 =>
    intro w hSw
    (try dsimp only at hSw)
    go_simp
    all_goals (with_reducible rfl)
  try simp only [Act.put, List.setIfInBounds_toArray, List.set_cons_zero, List.set_cons_succ]
  refine wpAnyS_pure (i := 4) (oi := { dst := some 7, op := Go.Op.call { callee := Go.Callee.builtin Go.Builtin.len, args := #[Go.Operand.tmp 6], argTypes := #[24] }, type := 3, pos := "top10.go:12", after := #[{ on := 3, ground := Go.Ground.data }], guard := none }) (v := ?v4) rfl (by kernel_rfl) (by kernel_rfl) (by kernel_rfl) (fun _ _ _ h => h) (Or.inl ⟨by rfl, ?y4⟩) ?r4
  case y4 =>
    intro w hSw
    (try dsimp only at hSw)
    go_simp
    all_goals (with_reducible rfl)
  try simp only [Act.put, List.setIfInBounds_toArray, List.set_cons_zero, List.set_cons_succ]
  refine wpAnyS_pure (i := 5) (oi := { dst := some 8, op := Go.Op.call { callee := Go.Callee.builtin Go.Builtin.min, args := #[Go.Operand.tmp 7, Go.Operand.const (Go.Value.int Go.IntKind.i64 4)], argTypes := #[3, 3] }, type := 3, pos := "top10.go:12", after := #[{ on := 4, ground := Go.Ground.data }], guard := none }) (v := ?v5) rfl (by kernel_rfl) (by kernel_rfl) (by kernel_rfl) (fun _ _ _ h => h) (Or.inl ⟨by rfl, ?y5⟩) ?r5
  case y5 =>
    intro w hSw
    (try dsimp only at hSw)
    go_simp
    all_goals (with_reducible rfl)
  try simp only [Act.put, List.setIfInBounds_toArray, List.set_cons_zero, List.set_cons_succ]
  refine wpAnyS_pure (i := 6) (oi := { dst := some 9, op := Go.Op.slice 24 (Go.Operand.tmp 4) none (some (Go.Operand.tmp 8)) none, type := 24, pos := "top10.go:12", after := #[{ on := 1, ground := Go.Ground.data }, { on := 5, ground := Go.Ground.data }], guard := none }) (v := ?v6) rfl (by kernel_rfl) (by kernel_rfl) (by kernel_rfl) (fun _ _ _ h => h) (Or.inl ⟨by rfl, ?y6⟩) ?r6
  case y6 =>
    intro w hSw
    (try dsimp only at hSw)
    go_simp
    all_goals (with_reducible rfl)
  try simp only [Act.put, List.setIfInBounds_toArray, List.set_cons_zero, List.set_cons_succ]
  refine wpAnyS_pure (i := 7) (oi := { dst := some 10, op := Go.Op.fieldAddr 27 (Go.Operand.tmp 1) 7, type := 0, pos := "top10.go:12", after := #[], guard := none }) (v := ?v7) rfl (by kernel_rfl) (by kernel_rfl) (by kernel_rfl) (fun _ _ _ h => h) (Or.inl ⟨by rfl, ?y7⟩) ?r7
  case y7 =>
    intro w hSw
    (try dsimp only at hSw)
    go_simp
    all_goals (with_reducible rfl)
  try simp only [Act.put, List.setIfInBounds_toArray, List.set_cons_zero, List.set_cons_succ]
  refine wpAnyS_take (i := 8) (oi := { dst := some 11, op := Go.Op.load 25 (Go.Operand.tmp 10), type := 25, pos := "top10.go:12", after := #[{ on := 7, ground := Go.Ground.data }], guard := none }) (v := ?v8) rfl (by kernel_rfl) (by kernel_rfl) (by kernel_rfl) (by kernel_rfl) (fun _ _ _ h => h) (Or.inl ⟨by rfl, ?y8⟩) (by assumption) ?r8
  case y8 =>
    intro w hSw
    (try dsimp only at hSw)
    go_simp
    all_goals (with_reducible rfl)
  try simp only [Act.put, List.setIfInBounds_toArray, List.set_cons_zero, List.set_cons_succ]
  refine wpAnyS_pure (i := 9) (oi := { dst := some 12, op := Go.Op.fieldAddr 27 (Go.Operand.tmp 1) 7, type := 0, pos := "top10.go:12", after := #[], guard := none }) (v := ?v9) rfl (by kernel_rfl) (by kernel_rfl) (by kernel_rfl) (fun _ _ _ h => h) (Or.inl ⟨by rfl, ?y9⟩) ?r9
  case y9 =>
    intro w hSw
    (try dsimp only at hSw)
    go_simp
    all_goals (with_reducible rfl)
  try simp only [Act.put, List.setIfInBounds_toArray, List.set_cons_zero, List.set_cons_succ]
  refine wpAnyS_take (i := 10) (oi := { dst := some 13, op := Go.Op.load 25 (Go.Operand.tmp 12), type := 25, pos := "top10.go:12", after := #[{ on := 9, ground := Go.Ground.data }], guard := none }) (v := ?v10) rfl (by kernel_rfl) (by kernel_rfl) (by kernel_rfl) (by kernel_rfl) (fun _ _ _ h => h) (Or.inl ⟨by rfl, ?y10⟩) (by assumption) ?r10
  case y10 =>
    intro w hSw
    (try dsimp only at hSw)
    go_simp
    all_goals (with_reducible rfl)
  try simp only [Act.put, List.setIfInBounds_toArray, List.set_cons_zero, List.set_cons_succ]
  refine wpAnyS_pure (i := 11) (oi := { dst := some 14, op := Go.Op.call { callee := Go.Callee.builtin Go.Builtin.len, args := #[Go.Operand.tmp 13], argTypes := #[25] }, type := 3, pos := "top10.go:12", after := #[{ on := 10, ground := Go.Ground.data }], guard := none }) (v := ?v11) rfl (by kernel_rfl) (by kernel_rfl) (by kernel_rfl) (fun _ _ _ h => h) (Or.inl ⟨by rfl, ?y11⟩) ?r11
  case y11 =>
    intro w hSw
    (try dsimp only at hSw)
    go_simp
    all_goals (with_reducible rfl)
  try simp only [Act.put, List.setIfInBounds_toArray, List.set_cons_zero, List.set_cons_succ]
  refine wpAnyS_pure (i := 12) (oi := { dst := some 15, op := Go.Op.call { callee := Go.Callee.builtin Go.Builtin.min, args := #[Go.Operand.tmp 14, Go.Operand.const (Go.Value.int Go.IntKind.i64 3)], argTypes := #[3, 3] }, type := 3, pos := "top10.go:12", after := #[{ on := 11, ground := Go.Ground.data }], guard := none }) (v := ?v12) rfl (by kernel_rfl) (by kernel_rfl) (by kernel_rfl) (fun _ _ _ h => h) (Or.inl ⟨by rfl, ?y12⟩) ?r12
  case y12 =>
    intro w hSw
    (try dsimp only at hSw)
    go_simp
    all_goals (with_reducible rfl)
  try simp only [Act.put, List.setIfInBounds_toArray, List.set_cons_zero, List.set_cons_succ]
  refine wpAnyS_pure (i := 13) (oi := { dst := some 16, op := Go.Op.slice 25 (Go.Operand.tmp 11) none (some (Go.Operand.tmp 15)) none, type := 25, pos := "top10.go:12", after := #[{ on := 8, ground := Go.Ground.data }, { on := 12, ground := Go.Ground.data }], guard := none }) (v := ?v13) rfl (by kernel_rfl) (by kernel_rfl) (by kernel_rfl) (fun _ _ _ h => h) (Or.inl ⟨by rfl, ?y13⟩) ?r13
  case y13 =>
    intro w hSw
    (try dsimp only at hSw)
    go_simp
    all_goals (with_reducible rfl)
  try simp only [Act.put, List.setIfInBounds_toArray, List.set_cons_zero, List.set_cons_succ]
  refine wpAnyS_pure (i := 14) (oi := { dst := some 17, op := Go.Op.fieldAddr 27 (Go.Operand.tmp 1) 5, type := 0, pos := "top10.go:12", after := #[], guard := none }) (v := ?v14) rfl (by kernel_rfl) (by kernel_rfl) (by kernel_rfl) (fun _ _ _ h => h) (Or.inl ⟨by rfl, ?y14⟩) ?r14
  case y14 =>
    intro w hSw
    (try dsimp only at hSw)
    go_simp
    all_goals (with_reducible rfl)
  try simp only [Act.put, List.setIfInBounds_toArray, List.set_cons_zero, List.set_cons_succ]
  refine wpAnyS_take (i := 15) (oi := { dst := some 18, op := Go.Op.load 23 (Go.Operand.tmp 17), type := 23, pos := "top10.go:12", after := #[{ on := 14, ground := Go.Ground.data }], guard := none }) (v := ?v15) rfl (by kernel_rfl) (by kernel_rfl) (by kernel_rfl) (by kernel_rfl) (fun _ _ _ h => h) (Or.inl ⟨by rfl, ?y15⟩) (by assumption) ?r15
  case y15 =>
    intro w hSw
    (try dsimp only at hSw)
    go_simp
    all_goals (with_reducible rfl)
  try simp only [Act.put, List.setIfInBounds_toArray, List.set_cons_zero, List.set_cons_succ]
  refine wpAnyS_pure (i := 16) (oi := { dst := some 19, op := Go.Op.fieldAddr 27 (Go.Operand.tmp 1) 5, type := 0, pos := "top10.go:12", after := #[], guard := none }) (v := ?v16) rfl (by kernel_rfl) (by kernel_rfl) (by kernel_rfl) (fun _ _ _ h => h) (Or.inl ⟨by rfl, ?y16⟩) ?r16
  case y16 =>
    intro w hSw
    (try dsimp only at hSw)
    go_simp
    all_goals (with_reducible rfl)
  try simp only [Act.put, List.setIfInBounds_toArray, List.set_cons_zero, List.set_cons_succ]
  refine wpAnyS_take (i := 17) (oi := { dst := some 20, op := Go.Op.load 23 (Go.Operand.tmp 19), type := 23, pos := "top10.go:12", after := #[{ on := 16, ground := Go.Ground.data }], guard := none }) (v := ?v17) rfl (by kernel_rfl) (by kernel_rfl) (by kernel_rfl) (by kernel_rfl) (fun _ _ _ h => h) (Or.inl ⟨by rfl, ?y17⟩) (by assumption) ?r17
  case y17 =>
    intro w hSw
    (try dsimp only at hSw)
    go_simp
    all_goals (with_reducible rfl)
  try simp only [Act.put, List.setIfInBounds_toArray, List.set_cons_zero, List.set_cons_succ]
  refine wpAnyS_pure (i := 18) (oi := { dst := some 21, op := Go.Op.call { callee := Go.Callee.builtin Go.Builtin.len, args := #[Go.Operand.tmp 20], argTypes := #[23] }, type := 3, pos := "top10.go:12", after := #[{ on := 17, ground := Go.Ground.data }], guard := none }) (v := ?v18) rfl (by kernel_rfl) (by kernel_rfl) (by kernel_rfl) (fun _ _ _ h => h) (Or.inl ⟨by rfl, ?y18⟩) ?r18
  case y18 =>
    intro w hSw
    (try dsimp only at hSw)
    go_simp
    all_goals (with_reducible rfl)
  try simp only [Act.put, List.setIfInBounds_toArray, List.set_cons_zero, List.set_cons_succ]
  refine wpAnyS_pure (i := 19) (oi := { dst := some 22, op := Go.Op.call { callee := Go.Callee.builtin Go.Builtin.min, args := #[Go.Operand.tmp 21, Go.Operand.const (Go.Value.int Go.IntKind.i64 4)], argTypes := #[3, 3] }, type := 3, pos := "top10.go:12", after := #[{ on := 18, ground := Go.Ground.data }], guard := none }) (v := ?v19) rfl (by kernel_rfl) (by kernel_rfl) (by kernel_rfl) (fun _ _ _ h => h) (Or.inl ⟨by rfl, ?y19⟩) ?r19
  case y19 =>
    intro w hSw
    (try dsimp only at hSw)
    go_simp
    all_goals (with_reducible rfl)
  try simp only [Act.put, List.setIfInBounds_toArray, List.set_cons_zero, List.set_cons_succ]
  refine wpAnyS_pure (i := 20) (oi := { dst := some 23, op := Go.Op.slice 23 (Go.Operand.tmp 18) none (some (Go.Operand.tmp 22)) none, type := 23, pos := "top10.go:12", after := #[{ on := 15, ground := Go.Ground.data }, { on := 19, ground := Go.Ground.data }], guard := none }) (v := ?v20) rfl (by kernel_rfl) (by kernel_rfl) (by kernel_rfl) (fun _ _ _ h => h) (Or.inl ⟨by rfl, ?y20⟩) ?r20
  case y20 =>
    intro w hSw
    (try dsimp only at hSw)
    go_simp
    all_goals (with_reducible rfl)
  try simp only [Act.put, List.setIfInBounds_toArray, List.set_cons_zero, List.set_cons_succ]
  refine wpAnyS_pure (i := 21) (oi := { dst := some 24, op := Go.Op.fieldAddr 27 (Go.Operand.tmp 1) 6, type := 0, pos := "top10.go:12", after := #[{ on := 0, ground := Go.Ground.phase }, { on := 1, ground := Go.Ground.phase }, { on := 2, ground := Go.Ground.phase }, { on := 3, ground := Go.Ground.phase }, { on := 4, ground := Go.Ground.phase }, { on := 5, ground := Go.Ground.phase }, { on := 6, ground := Go.Ground.phase }, { on := 7, ground := Go.Ground.phase }, { on := 8, ground := Go.Ground.phase }, { on := 9, ground := Go.Ground.phase }, { on := 10, ground := Go.Ground.phase }, { on := 11, ground := Go.Ground.textOnly Go.Departure.lateStoresUnsure }, { on := 12, ground := Go.Ground.textOnly Go.Departure.lateStoresUnsure }, { on := 13, ground := Go.Ground.textOnly Go.Departure.lateStoresUnsure }, { on := 14, ground := Go.Ground.phase }, { on := 15, ground := Go.Ground.phase }, { on := 16, ground := Go.Ground.phase }, { on := 17, ground := Go.Ground.phase }, { on := 18, ground := Go.Ground.textOnly Go.Departure.lateStoresUnsure }, { on := 19, ground := Go.Ground.textOnly Go.Departure.lateStoresUnsure }, { on := 20, ground := Go.Ground.textOnly Go.Departure.lateStoresUnsure }], guard := none }) (v := ?v21) rfl (by kernel_rfl) (by kernel_rfl) (by kernel_rfl) (fun _ _ _ h => h) (Or.inl ⟨by rfl, ?y21⟩) ?r21
  case y21 =>
    intro w hSw
    (try dsimp only at hSw)
    go_simp
    all_goals (with_reducible rfl)
  try simp only [Act.put, List.setIfInBounds_toArray, List.set_cons_zero, List.set_cons_succ]
  refine wpAnyS_last (i := 22) (o := { dst := none, op := Go.Op.store 24 (Go.Operand.tmp 24) (Go.Operand.tmp 9), type := 0, pos := "top10.go:12", after := #[{ on := 21, ground := Go.Ground.data }, { on := 6, ground := Go.Ground.data }, { on := 0, ground := Go.Ground.phase }, { on := 1, ground := Go.Ground.phase }, { on := 2, ground := Go.Ground.phase }, { on := 3, ground := Go.Ground.phase }, { on := 4, ground := Go.Ground.phase }, { on := 5, ground := Go.Ground.phase }, { on := 6, ground := Go.Ground.phase }, { on := 7, ground := Go.Ground.phase }, { on := 8, ground := Go.Ground.phase }, { on := 9, ground := Go.Ground.phase }, { on := 10, ground := Go.Ground.phase }, { on := 11, ground := Go.Ground.textOnly Go.Departure.lateStoresUnsure }, { on := 12, ground := Go.Ground.textOnly Go.Departure.lateStoresUnsure }, { on := 13, ground := Go.Ground.textOnly Go.Departure.lateStoresUnsure }, { on := 14, ground := Go.Ground.phase }, { on := 15, ground := Go.Ground.phase }, { on := 16, ground := Go.Ground.phase }, { on := 17, ground := Go.Ground.phase }, { on := 18, ground := Go.Ground.textOnly Go.Departure.lateStoresUnsure }, { on := 19, ground := Go.Ground.textOnly Go.Departure.lateStoresUnsure }, { on := 20, ground := Go.Ground.textOnly Go.Departure.lateStoresUnsure }], guard := none }) (by kernel_rfl) rfl (by omega) (fun K hK => ?_)
  go_simp
  refine hK.out _ _ ?_
  clear hK K
  try simp only [Act.put, List.setIfInBounds_toArray, List.set_cons_zero, List.set_cons_succ]
  refine wpAnyS_pure (i := 23) (oi := { dst := some 25, op := Go.Op.fieldAddr 27 (Go.Operand.tmp 1) 7, type := 0, pos := "top10.go:12", after := #[{ on := 0, ground := Go.Ground.phase }, { on := 1, ground := Go.Ground.phase }, { on := 2, ground := Go.Ground.phase }, { on := 3, ground := Go.Ground.phase }, { on := 4, ground := Go.Ground.phase }, { on := 5, ground := Go.Ground.phase }, { on := 6, ground := Go.Ground.phase }, { on := 7, ground := Go.Ground.phase }, { on := 8, ground := Go.Ground.phase }, { on := 9, ground := Go.Ground.phase }, { on := 10, ground := Go.Ground.phase }, { on := 11, ground := Go.Ground.phase }, { on := 12, ground := Go.Ground.phase }, { on := 13, ground := Go.Ground.phase }, { on := 14, ground := Go.Ground.phase }, { on := 15, ground := Go.Ground.phase }, { on := 16, ground := Go.Ground.phase }, { on := 17, ground := Go.Ground.phase }, { on := 18, ground := Go.Ground.textOnly Go.Departure.lateStoresUnsure }, { on := 19, ground := Go.Ground.textOnly Go.Departure.lateStoresUnsure }, { on := 20, ground := Go.Ground.textOnly Go.Departure.lateStoresUnsure }, { on := 21, ground := Go.Ground.phase }, { on := 22, ground := Go.Ground.phase }], guard := none }) (v := ?v23) rfl (by kernel_rfl) (by kernel_rfl) (by kernel_rfl) (fun _ _ _ h => h) (Or.inl ⟨by rfl, ?y23⟩) ?r23
  case y23 =>
    intro w hSw
    (try dsimp only at hSw)
    go_simp
    all_goals (with_reducible rfl)
  try simp only [Act.put, List.setIfInBounds_toArray, List.set_cons_zero, List.set_cons_succ]
  refine wpAnyS_last (i := 24) (o := { dst := none, op := Go.Op.store 25 (Go.Operand.tmp 25) (Go.Operand.tmp 16), type := 0, pos := "top10.go:12", after := #[{ on := 23, ground := Go.Ground.data }, { on := 13, ground := Go.Ground.data }, { on := 22, ground := Go.Ground.chain }, { on := 0, ground := Go.Ground.phase }, { on := 1, ground := Go.Ground.phase }, { on := 2, ground := Go.Ground.phase }, { on := 3, ground := Go.Ground.phase }, { on := 4, ground := Go.Ground.phase }, { on := 5, ground := Go.Ground.phase }, { on := 6, ground := Go.Ground.phase }, { on := 7, ground := Go.Ground.phase }, { on := 8, ground := Go.Ground.phase }, { on := 9, ground := Go.Ground.phase }, { on := 10, ground := Go.Ground.phase }, { on := 11, ground := Go.Ground.phase }, { on := 12, ground := Go.Ground.phase }, { on := 13, ground := Go.Ground.phase }, { on := 14, ground := Go.Ground.phase }, { on := 15, ground := Go.Ground.phase }, { on := 16, ground := Go.Ground.phase }, { on := 17, ground := Go.Ground.phase }, { on := 18, ground := Go.Ground.textOnly Go.Departure.lateStoresUnsure }, { on := 19, ground := Go.Ground.textOnly Go.Departure.lateStoresUnsure }, { on := 20, ground := Go.Ground.textOnly Go.Departure.lateStoresUnsure }, { on := 21, ground := Go.Ground.phase }, { on := 22, ground := Go.Ground.phase }], guard := none }) (by kernel_rfl) rfl (by omega) (fun K hK => ?_)
  go_simp
  refine hK.out _ _ ?_
  clear hK K
  try simp only [Act.put, List.setIfInBounds_toArray, List.set_cons_zero, List.set_cons_succ]
  refine wpAnyS_pure (i := 25) (oi := { dst := some 26, op := Go.Op.fieldAddr 27 (Go.Operand.tmp 1) 5, type := 0, pos := "top10.go:12", after := #[{ on := 0, ground := Go.Ground.phase }, { on := 1, ground := Go.Ground.phase }, { on := 2, ground := Go.Ground.phase }, { on := 3, ground := Go.Ground.phase }, { on := 4, ground := Go.Ground.phase }, { on := 5, ground := Go.Ground.phase }, { on := 6, ground := Go.Ground.phase }, { on := 7, ground := Go.Ground.phase }, { on := 8, ground := Go.Ground.phase }, { on := 9, ground := Go.Ground.phase }, { on := 10, ground := Go.Ground.phase }, { on := 11, ground := Go.Ground.phase }, { on := 12, ground := Go.Ground.phase }, { on := 13, ground := Go.Ground.phase }, { on := 14, ground := Go.Ground.phase }, { on := 15, ground := Go.Ground.phase }, { on := 16, ground := Go.Ground.phase }, { on := 17, ground := Go.Ground.phase }, { on := 18, ground := Go.Ground.phase }, { on := 19, ground := Go.Ground.phase }, { on := 20, ground := Go.Ground.phase }, { on := 21, ground := Go.Ground.phase }, { on := 22, ground := Go.Ground.phase }, { on := 23, ground := Go.Ground.phase }, { on := 24, ground := Go.Ground.phase }], guard := none }) (v := ?v25) rfl (by kernel_rfl) (by kernel_rfl) (by kernel_rfl) (fun _ _ _ h => h) (Or.inl ⟨by rfl, ?y25⟩) ?r25
  case y25 =>
    intro w hSw
    (try dsimp only at hSw)
    go_simp
    all_goals (with_reducible rfl)
  try simp only [Act.put, List.setIfInBounds_toArray, List.set_cons_zero, List.set_cons_succ]
  refine wpAnyS_last (i := 26) (o := { dst := none, op := Go.Op.store 23 (Go.Operand.tmp 26) (Go.Operand.tmp 23), type := 0, pos := "top10.go:12", after := #[{ on := 25, ground := Go.Ground.data }, { on := 20, ground := Go.Ground.data }, { on := 24, ground := Go.Ground.chain }, { on := 0, ground := Go.Ground.phase }, { on := 1, ground := Go.Ground.phase }, { on := 2, ground := Go.Ground.phase }, { on := 3, ground := Go.Ground.phase }, { on := 4, ground := Go.Ground.phase }, { on := 5, ground := Go.Ground.phase }, { on := 6, ground := Go.Ground.phase }, { on := 7, ground := Go.Ground.phase }, { on := 8, ground := Go.Ground.phase }, { on := 9, ground := Go.Ground.phase }, { on := 10, ground := Go.Ground.phase }, { on := 11, ground := Go.Ground.phase }, { on := 12, ground := Go.Ground.phase }, { on := 13, ground := Go.Ground.phase }, { on := 14, ground := Go.Ground.phase }, { on := 15, ground := Go.Ground.phase }, { on := 16, ground := Go.Ground.phase }, { on := 17, ground := Go.Ground.phase }, { on := 18, ground := Go.Ground.phase }, { on := 19, ground := Go.Ground.phase }, { on := 20, ground := Go.Ground.phase }, { on := 21, ground := Go.Ground.phase }, { on := 22, ground := Go.Ground.phase }, { on := 23, ground := Go.Ground.phase }, { on := 24, ground := Go.Ground.phase }], guard := none }) (by kernel_rfl) rfl (by omega) (fun K hK => ?_)
  go_simp
  refine hK.out _ _ ?_
  clear hK K
  try simp only [Act.put, List.setIfInBounds_toArray, List.set_cons_zero, List.set_cons_succ]
  refine wpAnyS_done (by kernel_rfl) ?_ _
  clear d0 d1 d2 d3 d4 d5 d6 d7 df dl hHeld
  have R6 := blk_set (o := 6) (u := .slice a ne c) HR0.out
  have R7 := blk_set (o := 7) (u := .slice ac nc cc) R6
  have hne01 : w.heap.size + 1 ≠ w.heap.size := by omega
  refine exit_drew (fun W' => W'.heap[w.heap.size]? = some (.cells #[.string (ba d.title), .string (ba d.lang), .int .u8 (d.rate : Int), .bool d.drop, .int .i64 d.last, .slice ag ng cg, .slice a ne c, .slice ac nc cc] 27 (0, 0)) ∧ W'.heap[w.heap.size + 1]? = some (.cells zer27 27 (0, 0)) ∧ Below w.heap.size w W') ⟨blk_set (o := 5) (u := .slice ag ng cg) R7, blk_other (blk_other (blk_other HR1.out hne01) hne01) hne01, ((HB.out.setCell (p := ⟨w.heap.size, 6, none⟩) (Nat.le_refl _) _).setCell (p := ⟨w.heap.size, 7, none⟩) (Nat.le_refl _) _).setCell (p := ⟨w.heap.size, 5, none⟩) (Nat.le_refl _) _⟩ ?_
  rintro W' ⟨q0, q1, qb⟩
  obtain ⟨d0, d1, d2, d3, d4, d5, d6, d7, df, dl⟩ := blk8 q0
  obtain ⟨f0, f1, f2, f3, f4, f5, f6, f7, ff, fl⟩ := blk8 q1
  have HQ1 := Lib.hid q1
  have HQB := Lib.hid qb
  clear q0 q1 qb R6 R7 HR0 HR1 HB
  go_wp2_with fail
  refine post_drew (fun W2 => W2.heap[w.heap.size + 1]? = some (.cells #[.string (ba d.title), .string (ba d.lang), .int .u8 (d.rate : Int), .bool d.drop, .int .i64 d.last, .slice ag ng cg, .slice a ne c, .slice ac nc cc] 27 (0, 0)) ∧ Below w.heap.size w W2) ⟨set8 HQ1.out, below8 HQB.out (Nat.le_succ _)⟩ ?_
  rintro W2 ⟨q1, q2⟩
  have hbf : Below w.heap.size w W2.drew := q2.drew
  have t1 : (fewD d).regs.length = ng := by show (d.regs.take 4).length = ng; rw [List.length_take, HNG.out, Nat.min_comm]
  have t2 : (fewD d).evs.length = ne := by show (d.evs.take 4).length = ne; rw [List.length_take, HNE.out, Nat.min_comm]
  have t3 : (fewD d).cms.length = nc := by show (d.cms.take 3).length = nc; rw [List.length_take, HNC.out, Nat.min_comm]
  have e1 : d.regs.take ng = (fewD d).regs := by rw [HNG.out]; exact take_least _ _
  have e2 : d.evs.take ne = (fewD d).evs := by rw [HNE.out]; exact take_least _ _
  have e3 : d.cms.take nc = (fewD d).cms := by rw [HNC.out]; exact take_least _ _
  have g1 := RowR.take Rg.cells_len HG.out (m := ng) (by have := HNG.out; omega)
  have g2 := EvsR.take HE.out rfl (m := ne) (by have := HNE.out; omega)
  have g3 := RowR.take Cm.cells_len HC.out (m := nc) (by have := HNC.out; omega)
  rw [e1] at g1
  rw [e2] at g2
  rw [e3] at g3
  have k1 : RgsR w0 (.slice ag ng cg) (fewD d).regs := by unfold RgsR; rw [t1]; exact g1
  have k3 : CmsR w0 (.slice ac nc cc) (fewD d).cms := by unfold CmsR; rw [t3]; exact g3
  exact bodyPost_ret (results_cell_row Tryz.results4 _ W2.drew (w.heap.size + 1) _ _ _ _ rfl q1 Tryz.underlying27 rfl (by kernel_rfl)) rfl ⟨_, rfl, ⟨.slice ag ng cg, .slice a ne c, .slice ac nc cc, rfl, k1, g2, k3⟩, hbf⟩
end Go.Proofs.YtgiaohccebolpaaGreatDoor
