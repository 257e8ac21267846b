import Derived.Test.YtgiaohccebolpaaGreatDoorQ10
import Derived.StillTailTactics
namespace Go.Proofs.YtgiaohccebolpaaGreatDoor
open Go Go.RowKit
open Go.Maps
open Go.Lib hiding intOf
set_option linter.unusedVariables false
/-! ### the numbers of a comment -/
theorem keepA1 {a0 : Addr} {w w' w'' : World} {v0 : Value} (h : w'.cell? a0 = some v0 ∧ Below w.heap.size w w') (hb : Below w'.heap.size w' w'') : w''.cell? a0 = some v0 ∧ Below w.heap.size w w'' := by
  obtain ⟨k0, hw⟩ := h
  exact ⟨(hb.cell (cell_lt k0)).trans k0, below_grow hw hw.size hb⟩
theorem lastA1 {a0 : Addr} {w w' : World} {v0 : Value} (h : w'.cell? a0 = some v0 ∧ Below w.heap.size w w') : Below w.heap.size w w' := h.2
theorem keepA2 {a0 a1 : Addr} {w w' w'' : World} {v0 v1 : Value} (h : w'.cell? a0 = some v0 ∧ w'.cell? a1 = some v1 ∧ Below w.heap.size w w') (hb : Below w'.heap.size w' w'') : w''.cell? a0 = some v0 ∧ w''.cell? a1 = some v1 ∧ Below w.heap.size w w'' := by
  obtain ⟨k0, k1, hw⟩ := h
  exact ⟨(hb.cell (cell_lt k0)).trans k0, (hb.cell (cell_lt k1)).trans k1, below_grow hw hw.size hb⟩
theorem lastA2 {a0 a1 : Addr} {w w' : World} {v0 v1 : Value} (h : w'.cell? a0 = some v0 ∧ w'.cell? a1 = some v1 ∧ Below w.heap.size w w') : Below w.heap.size w w' := h.2.2
theorem keepA3 {a0 a1 a2 : Addr} {w w' w'' : World} {v0 v1 v2 : Value} (h : w'.cell? a0 = some v0 ∧ w'.cell? a1 = some v1 ∧ w'.cell? a2 = some v2 ∧ Below w.heap.size w w') (hb : Below w'.heap.size w' w'') : w''.cell? a0 = some v0 ∧ w''.cell? a1 = some v1 ∧ w''.cell? a2 = some v2 ∧ Below w.heap.size w w'' := by
  obtain ⟨k0, k1, k2, hw⟩ := h
  exact ⟨(hb.cell (cell_lt k0)).trans k0, (hb.cell (cell_lt k1)).trans k1, (hb.cell (cell_lt k2)).trans k2, below_grow hw hw.size hb⟩
theorem lastA3 {a0 a1 a2 : Addr} {w w' : World} {v0 v1 v2 : Value} (h : w'.cell? a0 = some v0 ∧ w'.cell? a1 = some v1 ∧ w'.cell? a2 = some v2 ∧ Below w.heap.size w w') : Below w.heap.size w w' := h.2.2.2
theorem keepA4 {a0 a1 a2 a3 : Addr} {w w' w'' : World} {v0 v1 v2 v3 : Value} (h : w'.cell? a0 = some v0 ∧ w'.cell? a1 = some v1 ∧ w'.cell? a2 = some v2 ∧ w'.cell? a3 = some v3 ∧ Below w.heap.size w w') (hb : Below w'.heap.size w' w'') : w''.cell? a0 = some v0 ∧ w''.cell? a1 = some v1 ∧ w''.cell? a2 = some v2 ∧ w''.cell? a3 = some v3 ∧ Below w.heap.size w w'' := by
  obtain ⟨k0, k1, k2, k3, hw⟩ := h
  exact ⟨(hb.cell (cell_lt k0)).trans k0, (hb.cell (cell_lt k1)).trans k1, (hb.cell (cell_lt k2)).trans k2, (hb.cell (cell_lt k3)).trans k3, below_grow hw hw.size hb⟩
theorem lastA4 {a0 a1 a2 a3 : Addr} {w w' : World} {v0 v1 v2 v3 : Value} (h : w'.cell? a0 = some v0 ∧ w'.cell? a1 = some v1 ∧ w'.cell? a2 = some v2 ∧ w'.cell? a3 = some v3 ∧ Below w.heap.size w w') : Below w.heap.size w w' := h.2.2.2.2
theorem keepA7 {a0 a1 a2 a3 a4 a5 a6 : Addr} {w w' w'' : World} {v0 v1 v2 v3 v4 v5 v6 : Value} (h : w'.cell? a0 = some v0 ∧ w'.cell? a1 = some v1 ∧ w'.cell? a2 = some v2 ∧ w'.cell? a3 = some v3 ∧ w'.cell? a4 = some v4 ∧ w'.cell? a5 = some v5 ∧ w'.cell? a6 = some v6 ∧ Below w.heap.size w w') (hb : Below w'.heap.size w' w'') : w''.cell? a0 = some v0 ∧ w''.cell? a1 = some v1 ∧ w''.cell? a2 = some v2 ∧ w''.cell? a3 = some v3 ∧ w''.cell? a4 = some v4 ∧ w''.cell? a5 = some v5 ∧ w''.cell? a6 = some v6 ∧ Below w.heap.size w w'' := by
  obtain ⟨k0, k1, k2, k3, k4, k5, k6, hw⟩ := h
  exact ⟨(hb.cell (cell_lt k0)).trans k0, (hb.cell (cell_lt k1)).trans k1, (hb.cell (cell_lt k2)).trans k2, (hb.cell (cell_lt k3)).trans k3, (hb.cell (cell_lt k4)).trans k4, (hb.cell (cell_lt k5)).trans k5, (hb.cell (cell_lt k6)).trans k6, below_grow hw hw.size hb⟩
theorem lastA7 {a0 a1 a2 a3 a4 a5 a6 : Addr} {w w' : World} {v0 v1 v2 v3 v4 v5 v6 : Value} (h : w'.cell? a0 = some v0 ∧ w'.cell? a1 = some v1 ∧ w'.cell? a2 = some v2 ∧ w'.cell? a3 = some v3 ∧ w'.cell? a4 = some v4 ∧ w'.cell? a5 = some v5 ∧ w'.cell? a6 = some v6 ∧ Below w.heap.size w w') : Below w.heap.size w w' := h.2.2.2.2.2.2.2
theorem keepA8 {a0 a1 a2 a3 a4 a5 a6 a7 : Addr} {w w' w'' : World} {v0 v1 v2 v3 v4 v5 v6 v7 : Value} (h : w'.cell? a0 = some v0 ∧ w'.cell? a1 = some v1 ∧ w'.cell? a2 = some v2 ∧ w'.cell? a3 = some v3 ∧ w'.cell? a4 = some v4 ∧ w'.cell? a5 = some v5 ∧ w'.cell? a6 = some v6 ∧ w'.cell? a7 = some v7 ∧ Below w.heap.size w w') (hb : Below w'.heap.size w' w'') : w''.cell? a0 = some v0 ∧ w''.cell? a1 = some v1 ∧ w''.cell? a2 = some v2 ∧ w''.cell? a3 = some v3 ∧ w''.cell? a4 = some v4 ∧ w''.cell? a5 = some v5 ∧ w''.cell? a6 = some v6 ∧ w''.cell? a7 = some v7 ∧ Below w.heap.size w w'' := by
  obtain ⟨k0, k1, k2, k3, k4, k5, k6, k7, hw⟩ := h
  exact ⟨(hb.cell (cell_lt k0)).trans k0, (hb.cell (cell_lt k1)).trans k1, (hb.cell (cell_lt k2)).trans k2, (hb.cell (cell_lt k3)).trans k3, (hb.cell (cell_lt k4)).trans k4, (hb.cell (cell_lt k5)).trans k5, (hb.cell (cell_lt k6)).trans k6, (hb.cell (cell_lt k7)).trans k7, below_grow hw hw.size hb⟩
theorem lastA8 {a0 a1 a2 a3 a4 a5 a6 a7 : Addr} {w w' : World} {v0 v1 v2 v3 v4 v5 v6 v7 : Value} (h : w'.cell? a0 = some v0 ∧ w'.cell? a1 = some v1 ∧ w'.cell? a2 = some v2 ∧ w'.cell? a3 = some v3 ∧ w'.cell? a4 = some v4 ∧ w'.cell? a5 = some v5 ∧ w'.cell? a6 = some v6 ∧ w'.cell? a7 = some v7 ∧ Below w.heap.size w w') : Below w.heap.size w w' := h.2.2.2.2.2.2.2.2
theorem keepA9 {a0 a1 a2 a3 a4 a5 a6 a7 a8 : Addr} {w w' w'' : World} {v0 v1 v2 v3 v4 v5 v6 v7 v8 : Value} (h : w'.cell? a0 = some v0 ∧ w'.cell? a1 = some v1 ∧ w'.cell? a2 = some v2 ∧ w'.cell? a3 = some v3 ∧ w'.cell? a4 = some v4 ∧ w'.cell? a5 = some v5 ∧ w'.cell? a6 = some v6 ∧ w'.cell? a7 = some v7 ∧ w'.cell? a8 = some v8 ∧ Below w.heap.size w w') (hb : Below w'.heap.size w' w'') : w''.cell? a0 = some v0 ∧ w''.cell? a1 = some v1 ∧ w''.cell? a2 = some v2 ∧ w''.cell? a3 = some v3 ∧ w''.cell? a4 = some v4 ∧ w''.cell? a5 = some v5 ∧ w''.cell? a6 = some v6 ∧ w''.cell? a7 = some v7 ∧ w''.cell? a8 = some v8 ∧ Below w.heap.size w w'' := by
  obtain ⟨k0, k1, k2, k3, k4, k5, k6, k7, k8, hw⟩ := h
  exact ⟨(hb.cell (cell_lt k0)).trans k0, (hb.cell (cell_lt k1)).trans k1, (hb.cell (cell_lt k2)).trans k2, (hb.cell (cell_lt k3)).trans k3, (hb.cell (cell_lt k4)).trans k4, (hb.cell (cell_lt k5)).trans k5, (hb.cell (cell_lt k6)).trans k6, (hb.cell (cell_lt k7)).trans k7, (hb.cell (cell_lt k8)).trans k8, below_grow hw hw.size hb⟩
theorem lastA9 {a0 a1 a2 a3 a4 a5 a6 a7 a8 : Addr} {w w' : World} {v0 v1 v2 v3 v4 v5 v6 v7 v8 : Value} (h : w'.cell? a0 = some v0 ∧ w'.cell? a1 = some v1 ∧ w'.cell? a2 = some v2 ∧ w'.cell? a3 = some v3 ∧ w'.cell? a4 = some v4 ∧ w'.cell? a5 = some v5 ∧ w'.cell? a6 = some v6 ∧ w'.cell? a7 = some v7 ∧ w'.cell? a8 = some v8 ∧ Below w.heap.size w w') : Below w.heap.size w w' := h.2.2.2.2.2.2.2.2.2
theorem keepA10 {a0 a1 a2 a3 a4 a5 a6 a7 a8 a9 : Addr} {w w' w'' : World} {v0 v1 v2 v3 v4 v5 v6 v7 v8 v9 : Value} (h : w'.cell? a0 = some v0 ∧ w'.cell? a1 = some v1 ∧ w'.cell? a2 = some v2 ∧ w'.cell? a3 = some v3 ∧ w'.cell? a4 = some v4 ∧ w'.cell? a5 = some v5 ∧ w'.cell? a6 = some v6 ∧ w'.cell? a7 = some v7 ∧ w'.cell? a8 = some v8 ∧ w'.cell? a9 = some v9 ∧ Below w.heap.size w w') (hb : Below w'.heap.size w' w'') : w''.cell? a0 = some v0 ∧ w''.cell? a1 = some v1 ∧ w''.cell? a2 = some v2 ∧ w''.cell? a3 = some v3 ∧ w''.cell? a4 = some v4 ∧ w''.cell? a5 = some v5 ∧ w''.cell? a6 = some v6 ∧ w''.cell? a7 = some v7 ∧ w''.cell? a8 = some v8 ∧ w''.cell? a9 = some v9 ∧ Below w.heap.size w w'' := by
  obtain ⟨k0, k1, k2, k3, k4, k5, k6, k7, k8, k9, hw⟩ := h
  exact ⟨(hb.cell (cell_lt k0)).trans k0, (hb.cell (cell_lt k1)).trans k1, (hb.cell (cell_lt k2)).trans k2, (hb.cell (cell_lt k3)).trans k3, (hb.cell (cell_lt k4)).trans k4, (hb.cell (cell_lt k5)).trans k5, (hb.cell (cell_lt k6)).trans k6, (hb.cell (cell_lt k7)).trans k7, (hb.cell (cell_lt k8)).trans k8, (hb.cell (cell_lt k9)).trans k9, below_grow hw hw.size hb⟩
theorem lastA10 {a0 a1 a2 a3 a4 a5 a6 a7 a8 a9 : Addr} {w w' : World} {v0 v1 v2 v3 v4 v5 v6 v7 v8 v9 : Value} (h : w'.cell? a0 = some v0 ∧ w'.cell? a1 = some v1 ∧ w'.cell? a2 = some v2 ∧ w'.cell? a3 = some v3 ∧ w'.cell? a4 = some v4 ∧ w'.cell? a5 = some v5 ∧ w'.cell? a6 = some v6 ∧ w'.cell? a7 = some v7 ∧ w'.cell? a8 = some v8 ∧ w'.cell? a9 = some v9 ∧ Below w.heap.size w w') : Below w.heap.size w w' := h.2.2.2.2.2.2.2.2.2.2

def anE (last ev fr too : Int) (lo : Bool) (ids : List Int) (evs : List Ev) : Int :=
  if ev < 1 then 2 else if last < ev then 2
  else if lo = true then (if fr = 0 then (if too = 0 then 0 else 2) else 2)
  else if ev ∉ ids then 6
  else if fr < 0 then 2 else if too ≤ fr then 2 else if evLen (evs.getD (ids.idxOf ev) default).rows < too then 2 else 0
set_option maxHeartbeats 8000000 in
set_option maxRecDepth 100000 in
theorem anchored_any (title lang au tx : ByteArray) (rate : Int) (drop dn lo : Bool) (last id ev fr too : Int) (vg ve vc : Value) (ag ac : Option Addr) (ng nc cg cc : Nat) (hvg : vg = .slice ag ng cg) (hvc : vc = .slice ac nc cc) (b : Nat) (ids : List Int) (evs : List Ev) (w : World)
    (hM : MapI w b ids) (hV : EvsR w ve evs) (hids : ids.length = evs.length) (hn : evs.length ≤ 1048576) (hf : ∀ e ∈ evs, e.rows.length ≤ 4 ∧ ∀ x ∈ e.rows, rowFit x) (hl : last ≤ 1099511627776) (hE : Env w) :
    Calls Tryz.prog 80 #[dcV title lang rate drop last vg ve vc, .agg #[.int .i64 id, .int .i64 ev, .int .i64 fr, .int .i64 too, .string au, .string tx, .bool dn, .bool lo], .map (some b)] w fun e w' => e = .returned (.int .i64 (anE last ev fr too lo ids evs)) ∧ Below w.heap.size w w' := by
  subst hvg hvc
  obtain ⟨a, c, rfl⟩ := hV.len
  have hq : anE last ev fr too lo ids evs = if ev < 1 then 2 else if last < ev then 2
    else if lo = true then (if fr = 0 then (if too = 0 then 0 else 2) else 2)
    else if ev ∉ ids then 6
    else if fr < 0 then 2 else if too ≤ fr then 2 else if evLen (evs.getD (ids.idxOf ev) default).rows < too then 2 else 0 := rfl
  generalize anE last ev fr too lo ids evs = Z at *
  have HQ := Lib.hid hq
  have HM := Lib.hid hM
  have HV := Lib.hid hV
  have HF := Lib.hid hf
  have HI := Lib.hid hids
  clear hq hM hV hf hids
  go_enter Tryz.func80, Tryz.ntmps80
  go_upto_region 1 with fail
  refine world_as (fun W => Below w.heap.size w W ∧ W.heap[w.heap.size]? = some (.cells #[.string title, .string lang, .int .u8 rate, .bool drop, .int .i64 last, .slice ag ng cg, .slice a evs.length c, .slice ac nc cc] 27 (0, 0)) ∧ W.heap[w.heap.size + 1]? = some (.cells #[.int .i64 id, .int .i64 ev, .int .i64 fr, .int .i64 too, .string au, .string tx, .bool dn, .bool lo] 67 (0, 0))) ⟨(below1 _ (Nat.le_refl _)).alloc (by simp) _, heap_alloc2_old w _ _, heap_alloc2_new w _ _⟩ ?_
  rintro W ⟨hbW, hB1, hB2⟩
  obtain ⟨c0, c1, c2, c3, c4, c5, c6, c7, cf, hlt0⟩ := blk8 hB1
  obtain ⟨d0, d1, d2, d3, d4, d5, d6, d7, df, hlt1⟩ := blk8 hB2
  have HB := Lib.hid (And.intro hbW (And.intro hB1 hB2))
  clear hbW hB1 hB2
  by_cases h1 : ev < 1
  · have HZ : Hid (Z = 2) := Lib.hid (by rw [HQ.out, if_pos h1])
    clear HQ
    go_wp2_with fail
    go_ret
    exact ⟨ret_int HZ.out.symm, HB.out.1⟩
  by_cases h2 : last < ev
  · have HZ : Hid (Z = 2) := Lib.hid (by rw [HQ.out, if_neg h1, if_pos h2])
    clear HQ
    go_wp2_with fail
    go_ret
    exact ⟨ret_int HZ.out.symm, HB.out.1⟩
  have HQ1 := Lib.hid (HQ.out.trans (by rw [if_neg h1, if_neg h2]))
  have hwf : (Lit.int .i64 ev).wf = true := WalkArith.wf_i64 (by omega)
  have e1 : decide (ev < 1) = false := by simpa using h1
  have e2 : decide (last < ev) = false := by simpa using h2
  clear h1 h2 HQ
  cases lo
  case true =>
    by_cases f0 : fr = 0
    · by_cases t0 : too = 0
      · have HZ : Hid (Z = 0) := Lib.hid (by rw [HQ1.out, if_pos rfl, if_pos f0, if_pos t0])
        subst f0 t0
        clear HQ1
        go_wp2_with fail
        go_ret
        exact ⟨ret_int HZ.out.symm, HB.out.1⟩
      · have HZ : Hid (Z = 2) := Lib.hid (by rw [HQ1.out, if_pos rfl, if_pos f0, if_neg t0])
        have tz : (too == 0) = false := by simpa using t0
        subst f0
        clear HQ1 t0
        go_wp2_with fail
        go_ret
        exact ⟨ret_int HZ.out.symm, HB.out.1⟩
    · have HZ : Hid (Z = 2) := Lib.hid (by rw [HQ1.out, if_pos rfl, if_neg f0])
      have fz : (fr == 0) = false := by simpa using f0
      clear HQ1 f0
      go_wp2_with fail
      go_ret
      exact ⟨ret_int HZ.out.symm, HB.out.1⟩
  have HQ2 : Hid (Z = if ev ∉ ids then 6
    else if fr < 0 then 2 else if too ≤ fr then 2 else if evLen (evs.getD (ids.idxOf ev) default).rows < too then 2 else 0) := Lib.hid (by rw [HQ1.out, if_neg (by simp)])
  have hlook := (HM.out.below HB.out.1).look ev hwf
  clear HQ1
  by_cases hm : ev ∈ ids
  case neg =>
    have HZ : Hid (Z = 6) := Lib.hid (by rw [HQ2.out, if_pos hm])
    rw [decide_eq_false hm] at hlook
    clear HQ2 hm hwf
    go_wp2_with fail
    go_ret
    exact ⟨ret_int HZ.out.symm, HB.out.1⟩
  have HQ3 : Hid (Z = if fr < 0 then 2 else if too ≤ fr then 2 else if evLen (evs.getD (idxI ids ev) default).rows < too then 2 else 0) := Lib.hid (by rw [HQ2.out, if_neg (by simpa using hm)]; unfold idxI; rw [if_pos hm])
  rw [decide_eq_true hm] at hlook
  have hil : idxI ids ev < evs.length := by
    unfold idxI; rw [if_pos hm, ← HI.out]; exact List.idxOf_lt_length_of_mem hm
  generalize idxI ids ev = k at *
  clear HQ2 hm hwf
  by_cases hf0 : fr < 0
  · have HZ : Hid (Z = 2) := Lib.hid (by rw [HQ3.out, if_pos hf0])
    clear HQ3
    go_wp2_with fail
    go_quiet (fail)
    go_wp2_with fail
    go_ret
    exact ⟨ret_int HZ.out.symm, below_dn HB.out.1 _⟩
  have hfz : decide (fr < 0) = false := by simpa using hf0
  by_cases hft : too ≤ fr
  · have HZ : Hid (Z = 2) := Lib.hid (by rw [HQ3.out, if_neg hf0, if_pos hft])
    clear HQ3 hf0
    go_wp2_with fail
    go_quiet (fail)
    go_wp2_with fail
    go_ret
    exact ⟨ret_int HZ.out.symm, below_dn HB.out.1 _⟩
  have HQ4 : Hid (Z = if evLen (evs.getD k default).rows < too then 2 else 0) := Lib.hid (by rw [HQ3.out, if_neg hf0, if_neg hft])
  have hftz : decide (too ≤ fr) = false := by simpa using hft
  clear HQ3 hf0 hft
  have hVW := HV.out
  obtain ⟨g, off, rfl, hg⟩ := hVW.addr (by omega)
  obtain ⟨vr, hvr, k0, k1, k2, k3, k4, k5, k6⟩ := hVW.at rfl k hil
  obtain ⟨f1, f2⟩ := HF.out (evs.getD k default) (by rw [getD_of hil]; exact List.getElem_mem hil)
  have cL := fun w' h hE => elen_any (evs.getD k default).id (evs.getD k default).inn (evs.getD k default).out (ba (evs.getD k default).reg) (ba (evs.getD k default).spk) ((evs.getD k default).kind : Int) vr (evs.getD k default).rows w' h (by omega) f2 hE
  have HVR := Lib.hid hvr
  generalize evLen (evs.getD k default).rows = N at *
  generalize evs.getD k default = X at *
  obtain ⟨av, cv, rfl⟩ := hvr.len
  have hiz : (k : Int) < (evs.length : Int) := by omega
  have hkz : (0 : Int) ≤ (k : Int) := by omega
  have k0 := (HB.out.1.cell (cell_lt k0)).trans k0
  have k1 := (HB.out.1.cell (cell_lt k1)).trans k1
  have k2 := (HB.out.1.cell (cell_lt k2)).trans k2
  have k3 := (HB.out.1.cell (cell_lt k3)).trans k3
  have k4 := (HB.out.1.cell (cell_lt k4)).trans k4
  have k5 := (HB.out.1.cell (cell_lt k5)).trans k5
  have k6 := (HB.out.1.cell (cell_lt k6)).trans k6
  have hbd : Below w.heap.size w W.drew := HB.out.1.drew
  clear f1 f2 hVW hvr
  by_cases hN : N < too
  · have HZ : Hid (Z = 2) := Lib.hid (by rw [HQ4.out, if_pos hN])
    clear HQ4
    go_wp2_with fail
    go_region_held3 (fun w' => w'.cell? ⟨w.heap.size + 1, 2, none⟩ = some (.int .i64 fr) ∧ w'.cell? ⟨w.heap.size + 1, 3, none⟩ = some (.int .i64 too) ∧ w'.cell? ⟨w.heap.size, 6, none⟩ = some (.slice (some ⟨g, off, none⟩) evs.length c) ∧ w'.cell? ⟨g, off + k * 7, none⟩ = some (.int .i64 X.id) ∧ w'.cell? ⟨g, off + k * 7 + 1, none⟩ = some (.int .i64 X.inn) ∧ w'.cell? ⟨g, off + k * 7 + 2, none⟩ = some (.int .i64 X.out) ∧ w'.cell? ⟨g, off + k * 7 + 3, none⟩ = some (.string (ba X.reg)) ∧ w'.cell? ⟨g, off + k * 7 + 4, none⟩ = some (.int .u8 (X.kind : Int)) ∧ w'.cell? ⟨g, off + k * 7 + 5, none⟩ = some (.string (ba X.spk)) ∧ w'.cell? ⟨g, off + k * 7 + 6, none⟩ = some (.slice av X.rows.length cv) ∧ Below w.heap.size w w') (first | exact ⟨d2, d3, c6, k0, k1, k2, k3, k4, k5, k6, hbd⟩ | exact keepA10 (by assumption) hb5)
      ((go_at_call 109; refine (cL _ (HVR.out.below (lastA10 (by assumption))) (hE.below (lastA10 (by assumption)))).mono ?_; rintro e w5 ⟨rfl, hb5⟩))
    rename_i hH
    have HBf := lastA10 hH
    clear hH hb5
    go_wp2_with fail
    go_ret
    exact ⟨ret_int HZ.out.symm, HBf⟩
  · have HZ : Hid (Z = 0) := Lib.hid (by rw [HQ4.out, if_neg hN])
    clear HQ4
    go_wp2_with fail
    go_region_held3 (fun w' => w'.cell? ⟨w.heap.size + 1, 2, none⟩ = some (.int .i64 fr) ∧ w'.cell? ⟨w.heap.size + 1, 3, none⟩ = some (.int .i64 too) ∧ w'.cell? ⟨w.heap.size, 6, none⟩ = some (.slice (some ⟨g, off, none⟩) evs.length c) ∧ w'.cell? ⟨g, off + k * 7, none⟩ = some (.int .i64 X.id) ∧ w'.cell? ⟨g, off + k * 7 + 1, none⟩ = some (.int .i64 X.inn) ∧ w'.cell? ⟨g, off + k * 7 + 2, none⟩ = some (.int .i64 X.out) ∧ w'.cell? ⟨g, off + k * 7 + 3, none⟩ = some (.string (ba X.reg)) ∧ w'.cell? ⟨g, off + k * 7 + 4, none⟩ = some (.int .u8 (X.kind : Int)) ∧ w'.cell? ⟨g, off + k * 7 + 5, none⟩ = some (.string (ba X.spk)) ∧ w'.cell? ⟨g, off + k * 7 + 6, none⟩ = some (.slice av X.rows.length cv) ∧ Below w.heap.size w w') (first | exact ⟨d2, d3, c6, k0, k1, k2, k3, k4, k5, k6, hbd⟩ | exact keepA10 (by assumption) hb5)
      ((go_at_call 109; refine (cL _ (HVR.out.below (lastA10 (by assumption))) (hE.below (lastA10 (by assumption)))).mono ?_; rintro e w5 ⟨rfl, hb5⟩))
    rename_i hH
    have HBf := lastA10 hH
    clear hH hb5
    go_wp2_with fail
    go_ret
    exact ⟨ret_int HZ.out.symm, HBf⟩
end Go.Proofs.YtgiaohccebolpaaGreatDoor
namespace Go.Proofs.YtgiaohccebolpaaGreatDoor
open Go Go.RowKit
open Go.Maps
open Go.Lib hiding intOf
set_option linter.unusedVariables false
/-! ### the comments -/
structure cmFit (c : Cm) : Prop where
  id : (Lit.int .i64 c.id).wf = true
  au : c.au.length ≤ 1048576
  tx : c.tx.length ≤ 1048576
def cmT (au tx : List UInt8) : Int := if nameOk au = false then 5 else if validC tx = false then 10 else if tx = [] then 4 else if 400 < tx.length then 9 else 0
def comS (last : Int) (ids : List Int) (evs : List Ev) (cms : List Cm) (i : Nat) : Int :=
  if (cms.getD i default).id < 1 then 2 else if last < (cms.getD i default).id then 2
  else if 0 < i ∧ (cms.getD i default).id ≤ (cms.getD (i - 1) default).id then 8
  else if (cms.getD i default).id ∈ ids then 7
  else if anE last (cms.getD i default).ev (cms.getD i default).fr (cms.getD i default).too (cms.getD i default).lo ids evs = 0 then cmT (cms.getD i default).au (cms.getD i default).tx
  else anE last (cms.getD i default).ev (cms.getD i default).fr (cms.getD i default).too (cms.getD i default).lo ids evs
def comE (last : Int) (ids : List Int) (evs : List Ev) (cms : List Cm) : Int := if 64 < cms.length then 9 else fnz (comS last ids evs cms) 0 cms.length
theorem comS_def (last : Int) (ids : List Int) (evs : List Ev) (cms : List Cm) (i : Nat) : comS last ids evs cms i = if (cms.getD i default).id < 1 then 2 else if last < (cms.getD i default).id then 2
  else if 0 < i ∧ (cms.getD i default).id ≤ (cms.getD (i - 1) default).id then 8
  else if (cms.getD i default).id ∈ ids then 7
  else if anE last (cms.getD i default).ev (cms.getD i default).fr (cms.getD i default).too (cms.getD i default).lo ids evs = 0 then cmT (cms.getD i default).au (cms.getD i default).tx
  else anE last (cms.getD i default).ev (cms.getD i default).fr (cms.getD i default).too (cms.getD i default).lo ids evs := rfl
theorem fnz_stop {f : Nat → Int} {z Z : Int} {i n : Nat} (h : fnz f i (n - i) = Z) (hi : i < n) (hz : f i = z) (h0 : z ≠ 0) : z = Z := by
  rw [fnz_step f i n hi, hz, if_neg h0] at h; exact h
theorem fnz_go {f : Nat → Int} {Z : Int} {i n : Nat} (h : fnz f i (n - i) = Z) (hi : i < n) (hz : f i = 0) : fnz f (i + 1) (n - (i + 1)) = Z := by
  rw [fnz_step f i n hi, if_pos hz] at h; exact h
set_option maxHeartbeats 16000000 in
set_option maxRecDepth 100000 in
theorem comments_any (title lang : ByteArray) (rate : Int) (drop : Bool) (last : Int) (vg ve vc : Value) (ag : Option Addr) (ng cg : Nat) (hvg : vg = .slice ag ng cg) (b : Nat) (ids : List Int) (evs : List Ev) (cms : List Cm) (w : World)
    (hM : MapI w b ids) (hV : EvsR w ve evs) (hC : CmsR w vc cms) (hids : ids.length = evs.length) (hn : evs.length ≤ 1048576) (hf : ∀ e ∈ evs, e.rows.length ≤ 4 ∧ ∀ x ∈ e.rows, rowFit x) (hcf : ∀ c ∈ cms, cmFit c) (hcn : cms.length ≤ 1048576) (hl : last ≤ 1099511627776) (hE : Env w) :
    Calls Tryz.prog 47 #[dcV title lang rate drop last vg ve vc, .map (some b)] w fun e w' => e = .returned (.int .i64 (comE last ids evs cms)) ∧ Below w.heap.size w w' := by
  subst hvg
  obtain ⟨a, c, rfl⟩ := hV.len
  obtain ⟨ac, cc, rfl⟩ := RowR.len hC
  by_cases h64 : 64 < cms.length
  · have hz : (64 : Int) < (cms.length : Int) := by omega
    have e : comE last ids evs cms = 9 := by unfold comE; rw [if_pos h64]
    rw [e]
    clear e
    go_enter Tryz.func47, Tryz.ntmps47
    go_wp2
    go_ret
    exact ⟨rfl, below1 _ (Nat.le_refl _)⟩
  have hz : ¬ (64 : Int) < (cms.length : Int) := by omega
  have hq : fnz (comS last ids evs cms) 0 (cms.length - 0) = comE last ids evs cms := by unfold comE; rw [if_neg h64]; rfl
  generalize comE last ids evs cms = Z at *
  have HQ := Lib.hid hq
  have HM := Lib.hid hM
  have HV := Lib.hid hV
  have HC := Lib.hid hC
  have HF := Lib.hid hf
  have HCF := Lib.hid hcf
  have HI := Lib.hid hids
  have HEv := Lib.hid hE
  clear hq hM hV hC hf hcf hids h64 hE
  go_enter Tryz.func47, Tryz.ntmps47
  go_wp2_with fail
  go_loopw [17] (fun v wx => ∃ i : Nat, v = .int .i64 i ∧ i ≤ cms.length ∧ Hid (fnz (comS last ids evs cms) i (cms.length - i) = Z) ∧ Hid (Below w.heap.size w wx) ∧ Hid (wx.heap[w.heap.size]? = some (.cells #[.string title, .string lang, .int .u8 rate, .bool drop, .int .i64 last, .slice ag ng cg, .slice a evs.length c, .slice ac cms.length cc] 27 (0, 0)))) (fun v _ => cms.length - (intOf v).toNat)
  case atStart => exact ⟨0, rfl, Nat.zero_le _, HQ, Lib.hid (below1 _ (Nat.le_refl _)), Lib.hid (heap_alloc_new w _)⟩
  case round =>
    clear HQ
    obtain ⟨i, rfl, hi, HZ, HB, HD⟩ := hrel
    have hsz := HB.out.size
    by_cases hlt : i < cms.length
    · have hiz : (i : Int) < (cms.length : Int) := by omega
      have hCr := HC.out.below HB.out
      obtain ⟨g, off, rfl, hg, _⟩ := hCr.addr (by omega)
      obtain ⟨k0, k1, k2, k3, k4, k5, k6, k7⟩ := CmsR.at hCr rfl i hlt
      have hpv : 0 < i → wr.cell? ⟨g, off + (i - 1) * 8, none⟩ = some (.int .i64 (cms.getD (i - 1) default).id) := fun h => (CmsR.at hCr rfl (i - 1) (by omega)).1
      obtain ⟨hwf, hau, htx⟩ := HCF.out (cms.getD i default) (by rw [getD_of hlt]; exact List.getElem_mem hlt)
      have HS := Lib.hid (comS_def last ids evs cms i)
      have HST := Lib.hid (fun z => @fnz_stop (comS last ids evs cms) z Z i cms.length HZ.out hlt)
      have HGO := Lib.hid (@fnz_go (comS last ids evs cms) Z i cms.length HZ.out hlt)
      have cN := fun w' => name_any (ba (cms.getD i default).au) w' (by rw [ba_size]; omega)
      have cV := fun w' hE => valid_any (ba (cms.getD i default).tx) w' (by rw [ba_size]; omega) hE
      have hem := ba_empty (cms.getD i default).tx
      have hsx : (ba (cms.getD i default).tx).size = (cms.getD i default).tx.length := ba_size _
      rw [ba_data] at cN cV
      have cA := fun w' hM hV hE => anchored_any title lang (ba (cms.getD i default).au) (ba (cms.getD i default).tx) rate drop (cms.getD i default).dn (cms.getD i default).lo last (cms.getD i default).id (cms.getD i default).ev (cms.getD i default).fr (cms.getD i default).too (.slice ag ng cg) (.slice a evs.length c) (.slice (some ⟨g, off, none⟩) cms.length cc) ag (some ⟨g, off, none⟩) ng cms.length cg cc rfl rfl b ids evs w' hM hV HI.out hn HF.out hl hE
      have hcm : cmT (cms.getD i default).au (cms.getD i default).tx = if nameOk (cms.getD i default).au = false then 5 else if validC (cms.getD i default).tx = false then 10 else if (cms.getD i default).tx = [] then 4 else if 400 < (cms.getD i default).tx.length then 9 else 0 := rfl
      rw [hcm] at HS
      generalize anE last (cms.getD i default).ev (cms.getD i default).fr (cms.getD i default).too (cms.getD i default).lo ids evs = A at *
      generalize nameOk (cms.getD i default).au = NM at *
      generalize validC (cms.getD i default).tx = VL at *
      generalize (cms.getD i default).id = y0 at *
      generalize (cms.getD i default).ev = y1 at *
      generalize (cms.getD i default).fr = y2 at *
      generalize (cms.getD i default).too = y3 at *
      generalize ba (cms.getD i default).au = y4 at *
      generalize (cms.getD i default).tx = tx at *
      generalize (cms.getD i default).dn = y6 at *
      generalize (cms.getD i default).lo = y7 at *
      generalize (cms.getD (i - 1) default).id = p0 at *
      have HP := Lib.hid hpv
      have HEM := Lib.hid hem
      have HSX := Lib.hid hsx
      clear hCr hpv hem hsx hau htx HZ hcm
      go_upto_region 6 with fail
      refine world_as (fun W => Below w.heap.size w W ∧ Below wr.heap.size wr W ∧ W.heap[w.heap.size]? = some (.cells #[.string title, .string lang, .int .u8 rate, .bool drop, .int .i64 last, .slice ag ng cg, .slice a evs.length c, .slice (some ⟨g, off, none⟩) cms.length cc] 27 (0, 0)) ∧ W.heap[wr.heap.size]? = some (.cells #[.int .i64 y0, .int .i64 y1, .int .i64 y2, .int .i64 y3, .string y4, .string (ba tx), .bool y6, .bool y7] 67 (0, 0))) ⟨HB.out.alloc hsz _, below1 _ (Nat.le_refl _), blk_stay HD.out (below1 _ (Nat.le_refl _)), heap_alloc_new wr _⟩ ?_
      rintro W ⟨hbW, hbr, hB1, hB2⟩
      have hp : 0 < i → W.cell? ⟨g, off + (i - 1) * 8, none⟩ = some (.int .i64 p0) := fun h => (hbr.cell (cell_lt (HP.out h))).trans (HP.out h)
      have HP := Lib.hid hp
      clear k0 k1 k2 k3 k4 k5 k6 k7 hp
      obtain ⟨c0, c1, c2, c3, c4, c5, c6, c7, cf, hlt0⟩ := blk8 hB1
      obtain ⟨d0, d1, d2, d3, d4, d5, d6, d7, df, hlt1⟩ := blk8 hB2
      have HN : Hid (∀ W2 : World, Below W.heap.size W W2 → Below w.heap.size w W2 ∧ W2.heap[w.heap.size]? = some (.cells #[.string title, .string lang, .int .u8 rate, .bool drop, .int .i64 last, .slice ag ng cg, .slice a evs.length c, .slice (some ⟨g, off, none⟩) cms.length cc] 27 (0, 0)) ∧ W2.heap[wr.heap.size]? = some (.cells #[.int .i64 y0, .int .i64 y1, .int .i64 y2, .int .i64 y3, .string y4, .string (ba tx), .bool y6, .bool y7] 67 (0, 0))) := Lib.hid (fun W2 h => ⟨below_grow hbW hbW.size h, blk_stay hB1 h, blk_stay hB2 h⟩)
      have HBW := Lib.hid hbW
      have hlook := (HM.out.below hbW).look y0 hwf
      clear hbW hbr hB1 hB2 HB HD hsz hwf
      by_cases h1 : y0 < 1
      · have HQ : Hid (2 = Z) := Lib.hid (HST.out 2 (by rw [HS.out, if_pos h1]) (by omega))
        go_wp2_with fail
        go_ret
        exact ⟨ret_int HQ.out, HBW.out⟩
      by_cases h2 : last < y0
      · have HQ : Hid (2 = Z) := Lib.hid (HST.out 2 (by rw [HS.out, if_neg h1, if_pos h2]) (by omega))
        go_wp2_with fail
        go_ret
        exact ⟨ret_int HQ.out, HBW.out⟩
      have HS1 := Lib.hid (HS.out.trans (by rw [if_neg h1, if_neg h2]))
      have e1 : decide (y0 < 1) = false := by simpa using h1
      have e2 : decide (last < y0) = false := by simpa using h2
      clear h1 h2 HS
      by_cases hi0 : i = 0
      · have HS2 := Lib.hid (HS1.out.trans (by rw [if_neg (by omega)]))
        have hdz : decide (0 < i) = false := by simp; omega
        clear hi0 HS1
        by_cases hm : y0 ∈ ids
        · have HQ : Hid (7 = Z) := Lib.hid (HST.out 7 (by rw [HS2.out, if_pos hm]) (by omega))
          rw [decide_eq_true hm] at hlook
          clear hm
          go_wp2_with fail
          go_quiet (fail)
          go_wp2_with fail
          go_ret
          exact ⟨ret_int HQ.out, below_dn HBW.out _⟩
        have HS3 := Lib.hid (HS2.out.trans (by rw [if_neg hm]))
        rw [decide_eq_false hm] at hlook
        clear hm HS2
        go_wp2_with fail
        go_quiet (fail)
        go_upto_region 13 with fail
        refine world_as (fun W2 => Below W.heap.size W W2) (below_dn (Below.refl _ _) _) ?_
        rintro W2 hb2
        obtain ⟨hbw2, hB1, hB2⟩ := HN.out _ hb2
        clear c0 c1 c2 c3 c4 c5 c6 c7 cf hlt0 d0 d1 d2 d3 d4 d5 d6 d7 df hlt1 hlook
        obtain ⟨c0, c1, c2, c3, c4, c5, c6, c7, cf, hlt0⟩ := blk8 hB1
        obtain ⟨d0, d1, d2, d3, d4, d5, d6, d7, df, hlt1⟩ := blk8 hB2
        have cA2 := cA W2 (HM.out.below hbw2) (HV.out.below hbw2) (HEv.out.below hbw2)
        clear hB1 hB2 hbw2 cA
        by_cases hA : A = 0
        case neg =>
          have HQ : Hid (A = Z) := Lib.hid (HST.out A (by rw [HS3.out, if_neg hA]) hA)
          have hAz : (A == 0) = false := by simpa using hA
          clear hA
          go_wp2_with fail
          refine (cA2).mono ?_
          rintro e w3 ⟨rfl, hb3⟩
          have hb3 := below_trans hb2 hb3
          obtain ⟨hbw3, hB1, hB2⟩ := HN.out _ hb3
          clear c0 c1 c2 c3 c4 c5 c6 c7 cf hlt0 d0 d1 d2 d3 d4 d5 d6 d7 df hlt1
          obtain ⟨c0, c1, c2, c3, c4, c5, c6, c7, cf, hlt0⟩ := blk8 hB1
          obtain ⟨d0, d1, d2, d3, d4, d5, d6, d7, df, hlt1⟩ := blk8 hB2
          have HD3 := Lib.hid hB1
          have HBW3 := Lib.hid hbw3
          clear hB1 hB2 hbw3
          go_wp2_with fail
          go_ret
          exact ⟨ret_int HQ.out, HBW3.out⟩
        have HS4 := Lib.hid (HS3.out.trans (by rw [if_pos hA]))
        subst hA
        clear HS3
        go_wp2_with fail
        refine (cA2).mono ?_
        rintro e w3 ⟨rfl, hb3⟩
        have hb3 := below_trans hb2 hb3
        obtain ⟨hbw3, hB1, hB2⟩ := HN.out _ hb3
        clear c0 c1 c2 c3 c4 c5 c6 c7 cf hlt0 d0 d1 d2 d3 d4 d5 d6 d7 df hlt1
        obtain ⟨c0, c1, c2, c3, c4, c5, c6, c7, cf, hlt0⟩ := blk8 hB1
        obtain ⟨d0, d1, d2, d3, d4, d5, d6, d7, df, hlt1⟩ := blk8 hB2
        have HD3 := Lib.hid hB1
        have HBW3 := Lib.hid hbw3
        clear hB1 hB2 hbw3
        cases NM
        · have HQ : Hid (5 = Z) := Lib.hid (HST.out 5 (by rw [HS4.out]; rfl) (by omega))
          go_wp2_with fail
          refine (cN _).mono ?_
          rintro e w4 ⟨rfl, rfl⟩
          go_wp2_with fail
          go_ret
          exact ⟨ret_int HQ.out, HBW3.out⟩
        go_wp2_with fail
        refine (cN _).mono ?_
        rintro e w4 ⟨rfl, rfl⟩
        have hE3 := HEv.out.below HBW3.out
        go_wp2_with fail
        refine (cV _ hE3).mono ?_
        rintro e w5 ⟨rfl, hb5⟩
        have hb5 := below_trans hb3 hb5
        obtain ⟨hbw5, hB1, hB2⟩ := HN.out _ hb5
        clear c0 c1 c2 c3 c4 c5 c6 c7 cf hlt0 d0 d1 d2 d3 d4 d5 d6 d7 df hlt1
        obtain ⟨c0, c1, c2, c3, c4, c5, c6, c7, cf, hlt0⟩ := blk8 hB1
        obtain ⟨d0, d1, d2, d3, d4, d5, d6, d7, df, hlt1⟩ := blk8 hB2
        have HD5 := Lib.hid hB1
        have HBW5 := Lib.hid hbw5
        clear hB1 hB2 hbw5
        cases VL
        · have HQ : Hid (10 = Z) := Lib.hid (HST.out 10 (by rw [HS4.out]; rfl) (by omega))
          go_wp2_with fail
          go_ret
          exact ⟨ret_int HQ.out, HBW5.out⟩
        by_cases hx : tx = []
        · have HQ : Hid (4 = Z) := Lib.hid (HST.out 4 (by rw [HS4.out, if_neg (by simp), if_neg (by simp), if_pos hx]) (by omega))
          have hem2 : (ba tx).toList.isEmpty = true := by rw [HEM.out]; simpa using hx
          clear hx
          go_wp2_with fail
          go_ret
          exact ⟨ret_int HQ.out, HBW5.out⟩
        have hem2 : (ba tx).toList.isEmpty = false := by rw [HEM.out]; simpa using hx
        by_cases h4 : 400 < tx.length
        · have HQ : Hid (9 = Z) := Lib.hid (HST.out 9 (by rw [HS4.out, if_neg (by simp), if_neg (by simp), if_neg hx, if_pos h4]) (by omega))
          have h4z : (400 : Int) < ((ba tx).size : Int) := by rw [HSX.out]; omega
          clear hx h4
          go_wp2_with fail
          go_ret
          exact ⟨ret_int HQ.out, HBW5.out⟩
        have HQ : Hid (fnz (comS last ids evs cms) (i + 1) (cms.length - (i + 1)) = Z) := Lib.hid (HGO.out (by rw [HS4.out, if_neg (by simp), if_neg (by simp), if_neg hx, if_neg h4]))
        have h4z : ¬ (400 : Int) < ((ba tx).size : Int) := by rw [HSX.out]; omega
        clear hx h4
        go_wp2_with fail
        go_roundw
        case rel => exact ⟨i + 1, by go_num, by omega, HQ, HBW5, HD5⟩
        case measure => simp [intOf]; omega
      have hdz : 0 < i := by omega
      have hdi : (1 : Int) ≤ (i : Int) := by omega
      have hdl : (i : Int) - 1 < (cms.length : Int) := by omega
      have hdk : (0 : Int) ≤ (i : Int) - 1 := by omega
      have q0 := HP.out hdz
      by_cases hor : y0 ≤ p0
      · have HQ : Hid (8 = Z) := Lib.hid (HST.out 8 (by rw [HS1.out, if_pos ⟨hdz, hor⟩]) (by omega))
        go_wp2_with fail
        go_quiet (fail)
        go_wp2_with fail
        go_ret
        exact ⟨ret_int HQ.out, below_dn HBW.out _⟩
      have HS2 := Lib.hid (HS1.out.trans (by rw [if_neg (by omega)]))
      have horz : decide (y0 ≤ p0) = false := by simpa using hor
      clear hor HS1 hi0
      by_cases hm : y0 ∈ ids
      · have HQ : Hid (7 = Z) := Lib.hid (HST.out 7 (by rw [HS2.out, if_pos hm]) (by omega))
        rw [decide_eq_true hm] at hlook
        clear hm
        go_wp2_with fail
        go_quiet (fail)
        go_wp2_with fail
        go_ret
        exact ⟨ret_int HQ.out, below_dn HBW.out _⟩
      have HS3 := Lib.hid (HS2.out.trans (by rw [if_neg hm]))
      rw [decide_eq_false hm] at hlook
      clear hm HS2
      go_wp2_with fail
      go_quiet (fail)
      go_upto_region 13 with fail
      refine world_as (fun W2 => Below W.heap.size W W2) (below_dn (Below.refl _ _) _) ?_
      rintro W2 hb2
      obtain ⟨hbw2, hB1, hB2⟩ := HN.out _ hb2
      clear c0 c1 c2 c3 c4 c5 c6 c7 cf hlt0 d0 d1 d2 d3 d4 d5 d6 d7 df hlt1 hlook
      obtain ⟨c0, c1, c2, c3, c4, c5, c6, c7, cf, hlt0⟩ := blk8 hB1
      obtain ⟨d0, d1, d2, d3, d4, d5, d6, d7, df, hlt1⟩ := blk8 hB2
      have cA2 := cA W2 (HM.out.below hbw2) (HV.out.below hbw2) (HEv.out.below hbw2)
      clear hB1 hB2 hbw2 cA
      by_cases hA : A = 0
      case neg =>
        have HQ : Hid (A = Z) := Lib.hid (HST.out A (by rw [HS3.out, if_neg hA]) hA)
        have hAz : (A == 0) = false := by simpa using hA
        clear hA
        go_wp2_with fail
        refine (cA2).mono ?_
        rintro e w3 ⟨rfl, hb3⟩
        have hb3 := below_trans hb2 hb3
        obtain ⟨hbw3, hB1, hB2⟩ := HN.out _ hb3
        clear c0 c1 c2 c3 c4 c5 c6 c7 cf hlt0 d0 d1 d2 d3 d4 d5 d6 d7 df hlt1
        obtain ⟨c0, c1, c2, c3, c4, c5, c6, c7, cf, hlt0⟩ := blk8 hB1
        obtain ⟨d0, d1, d2, d3, d4, d5, d6, d7, df, hlt1⟩ := blk8 hB2
        have HD3 := Lib.hid hB1
        have HBW3 := Lib.hid hbw3
        clear hB1 hB2 hbw3
        go_wp2_with fail
        go_ret
        exact ⟨ret_int HQ.out, HBW3.out⟩
      have HS4 := Lib.hid (HS3.out.trans (by rw [if_pos hA]))
      subst hA
      clear HS3
      go_wp2_with fail
      refine (cA2).mono ?_
      rintro e w3 ⟨rfl, hb3⟩
      have hb3 := below_trans hb2 hb3
      obtain ⟨hbw3, hB1, hB2⟩ := HN.out _ hb3
      clear c0 c1 c2 c3 c4 c5 c6 c7 cf hlt0 d0 d1 d2 d3 d4 d5 d6 d7 df hlt1
      obtain ⟨c0, c1, c2, c3, c4, c5, c6, c7, cf, hlt0⟩ := blk8 hB1
      obtain ⟨d0, d1, d2, d3, d4, d5, d6, d7, df, hlt1⟩ := blk8 hB2
      have HD3 := Lib.hid hB1
      have HBW3 := Lib.hid hbw3
      clear hB1 hB2 hbw3
      cases NM
      · have HQ : Hid (5 = Z) := Lib.hid (HST.out 5 (by rw [HS4.out]; rfl) (by omega))
        go_wp2_with fail
        refine (cN _).mono ?_
        rintro e w4 ⟨rfl, rfl⟩
        go_wp2_with fail
        go_ret
        exact ⟨ret_int HQ.out, HBW3.out⟩
      go_wp2_with fail
      refine (cN _).mono ?_
      rintro e w4 ⟨rfl, rfl⟩
      have hE3 := HEv.out.below HBW3.out
      go_wp2_with fail
      refine (cV _ hE3).mono ?_
      rintro e w5 ⟨rfl, hb5⟩
      have hb5 := below_trans hb3 hb5
      obtain ⟨hbw5, hB1, hB2⟩ := HN.out _ hb5
      clear c0 c1 c2 c3 c4 c5 c6 c7 cf hlt0 d0 d1 d2 d3 d4 d5 d6 d7 df hlt1
      obtain ⟨c0, c1, c2, c3, c4, c5, c6, c7, cf, hlt0⟩ := blk8 hB1
      obtain ⟨d0, d1, d2, d3, d4, d5, d6, d7, df, hlt1⟩ := blk8 hB2
      have HD5 := Lib.hid hB1
      have HBW5 := Lib.hid hbw5
      clear hB1 hB2 hbw5
      cases VL
      · have HQ : Hid (10 = Z) := Lib.hid (HST.out 10 (by rw [HS4.out]; rfl) (by omega))
        go_wp2_with fail
        go_ret
        exact ⟨ret_int HQ.out, HBW5.out⟩
      by_cases hx : tx = []
      · have HQ : Hid (4 = Z) := Lib.hid (HST.out 4 (by rw [HS4.out, if_neg (by simp), if_neg (by simp), if_pos hx]) (by omega))
        have hem2 : (ba tx).toList.isEmpty = true := by rw [HEM.out]; simpa using hx
        clear hx
        go_wp2_with fail
        go_ret
        exact ⟨ret_int HQ.out, HBW5.out⟩
      have hem2 : (ba tx).toList.isEmpty = false := by rw [HEM.out]; simpa using hx
      by_cases h4 : 400 < tx.length
      · have HQ : Hid (9 = Z) := Lib.hid (HST.out 9 (by rw [HS4.out, if_neg (by simp), if_neg (by simp), if_neg hx, if_pos h4]) (by omega))
        have h4z : (400 : Int) < ((ba tx).size : Int) := by rw [HSX.out]; omega
        clear hx h4
        go_wp2_with fail
        go_ret
        exact ⟨ret_int HQ.out, HBW5.out⟩
      have HQ : Hid (fnz (comS last ids evs cms) (i + 1) (cms.length - (i + 1)) = Z) := Lib.hid (HGO.out (by rw [HS4.out, if_neg (by simp), if_neg (by simp), if_neg hx, if_neg h4]))
      have h4z : ¬ (400 : Int) < ((ba tx).size : Int) := by rw [HSX.out]; omega
      clear hx h4
      go_wp2_with fail
      go_roundw
      case rel => exact ⟨i + 1, by go_num, by omega, HQ, HBW5, HD5⟩
      case measure => simp [intOf]; omega
    · obtain rfl : i = cms.length := by omega
      have hq := HZ.out
      rw [fnz_end] at hq
      have HQ := Lib.hid hq
      clear hq HZ
      have hiz : ¬ (cms.length : Int) < (cms.length : Int) := by omega
      go_wp2_with fail
      go_ret
      exact ⟨ret_int HQ.out, HB.out⟩
end Go.Proofs.YtgiaohccebolpaaGreatDoor
