import Derived.Test.YtgiaohccebolpaaGreatDoorQ8
namespace Go.Proofs.YtgiaohccebolpaaGreatDoor
open Go Go.RowKit
open Go.Lib hiding intOf
set_option linter.unusedVariables false
/-! ### an event -/
def rowsE (L : List Rw) (i : Nat) : Int := rowE (L.getD i [])
def evE2 (r : Rg) (kind : Nat) (spk : List UInt8) (rows : List Rw) : Int :=
  if kind < 1 ∨ 4 < kind then 3
  else if spk ≠ [] ∧ nameOk spk = false then 5
  else if rows.length = 0 ∨ 4 < rows.length then 9
  else if fnz (rowsE rows) 0 rows.length = 0 then plE r (rows.map lenR) else fnz (rowsE rows) 0 rows.length
def evE3 (o : Option Rg) (kind : Nat) (spk : List UInt8) (rows : List Rw) : Int := match o with
  | none => 6
  | some r => evE2 r kind spk rows
def evE (regs : List Rg) (e : Ev) : Int :=
  if e.id < 1 then 2 else if 1099511627776 < e.id then 2 else if okSpan e.inn e.out = false then 2 else evE3 (fnd regs (ba e.reg)) e.kind e.spk e.rows
structure evFit (e : Ev) : Prop where
  k : e.kind < 256
  s : e.spk.length ≤ 1048576
  n : e.rows.length ≤ 1048576
  r : ∀ x ∈ e.rows, rowFit x
theorem dflt_ok : dflt.ok := ⟨by decide, by decide⟩
theorem fnd_ok {L : List Rg} (h : ∀ r ∈ L, r.ok) {s : ByteArray} {r : Rg} (hf : fnd L s = some r) : r.ok := by
  unfold fnd at hf
  split at hf
  · injection hf with e; subst e; exact dflt_ok
  · exact h r (List.mem_of_find?_eq_some hf)
theorem last14 {b b' : Nat} {w w' : World} {v0 v1 v2 v3 v4 v5 v6 u0 u1 u2 u3 u4 u5 u6 : Value}
    (h : w'.cell? ⟨b, 0, none⟩ = some v0 ∧ w'.cell? ⟨b, 1, none⟩ = some v1 ∧ w'.cell? ⟨b, 2, none⟩ = some v2 ∧ w'.cell? ⟨b, 3, none⟩ = some v3 ∧ w'.cell? ⟨b, 4, none⟩ = some v4 ∧ w'.cell? ⟨b, 5, none⟩ = some v5 ∧ w'.cell? ⟨b, 6, none⟩ = some v6 ∧
      w'.cell? ⟨b', 0, none⟩ = some u0 ∧ w'.cell? ⟨b', 1, none⟩ = some u1 ∧ w'.cell? ⟨b', 2, none⟩ = some u2 ∧ w'.cell? ⟨b', 3, none⟩ = some u3 ∧ w'.cell? ⟨b', 4, none⟩ = some u4 ∧ w'.cell? ⟨b', 5, none⟩ = some u5 ∧ w'.cell? ⟨b', 6, none⟩ = some u6 ∧ Below w.heap.size w w') : Below w.heap.size w w' := h.2.2.2.2.2.2.2.2.2.2.2.2.2.2
theorem keep14 {b b' : Nat} {w w' w'' : World} {v0 v1 v2 v3 v4 v5 v6 u0 u1 u2 u3 u4 u5 u6 : Value}
    (h : w'.cell? ⟨b, 0, none⟩ = some v0 ∧ w'.cell? ⟨b, 1, none⟩ = some v1 ∧ w'.cell? ⟨b, 2, none⟩ = some v2 ∧ w'.cell? ⟨b, 3, none⟩ = some v3 ∧ w'.cell? ⟨b, 4, none⟩ = some v4 ∧ w'.cell? ⟨b, 5, none⟩ = some v5 ∧ w'.cell? ⟨b, 6, none⟩ = some v6 ∧
      w'.cell? ⟨b', 0, none⟩ = some u0 ∧ w'.cell? ⟨b', 1, none⟩ = some u1 ∧ w'.cell? ⟨b', 2, none⟩ = some u2 ∧ w'.cell? ⟨b', 3, none⟩ = some u3 ∧ w'.cell? ⟨b', 4, none⟩ = some u4 ∧ w'.cell? ⟨b', 5, none⟩ = some u5 ∧ w'.cell? ⟨b', 6, none⟩ = some u6 ∧ Below w.heap.size w w') (hb : Below w'.heap.size w' w'') :
    w''.cell? ⟨b, 0, none⟩ = some v0 ∧ w''.cell? ⟨b, 1, none⟩ = some v1 ∧ w''.cell? ⟨b, 2, none⟩ = some v2 ∧ w''.cell? ⟨b, 3, none⟩ = some v3 ∧ w''.cell? ⟨b, 4, none⟩ = some v4 ∧ w''.cell? ⟨b, 5, none⟩ = some v5 ∧ w''.cell? ⟨b, 6, none⟩ = some v6 ∧
      w''.cell? ⟨b', 0, none⟩ = some u0 ∧ w''.cell? ⟨b', 1, none⟩ = some u1 ∧ w''.cell? ⟨b', 2, none⟩ = some u2 ∧ w''.cell? ⟨b', 3, none⟩ = some u3 ∧ w''.cell? ⟨b', 4, none⟩ = some u4 ∧ w''.cell? ⟨b', 5, none⟩ = some u5 ∧ w''.cell? ⟨b', 6, none⟩ = some u6 ∧ Below w.heap.size w w'' := by
  obtain ⟨k0, k1, k2, k3, k4, k5, k6, m0, m1, m2, m3, m4, m5, m6, hw⟩ := h
  exact ⟨(hb.cell (cell_lt k0)).trans k0, (hb.cell (cell_lt k1)).trans k1, (hb.cell (cell_lt k2)).trans k2, (hb.cell (cell_lt k3)).trans k3, (hb.cell (cell_lt k4)).trans k4, (hb.cell (cell_lt k5)).trans k5, (hb.cell (cell_lt k6)).trans k6,
    (hb.cell (cell_lt m0)).trans m0, (hb.cell (cell_lt m1)).trans m1, (hb.cell (cell_lt m2)).trans m2, (hb.cell (cell_lt m3)).trans m3, (hb.cell (cell_lt m4)).trans m4, (hb.cell (cell_lt m5)).trans m5, (hb.cell (cell_lt m6)).trans m6, below_grow hw hw.size hb⟩
theorem rplace_any (r : Rg) (hr : r.ok) (v : Value) (l : List Int) (w : World) (hR : RowR w 1 v l.length (icells l)) (hn : l.length ≤ 1048576) :
    Calls Tryz.prog 70 #[r.v, v] w fun e w' => SomeRow (plE r l) e ∧ Below w.heap.size w w' := by
  by_cases h : usB r = true ∧ ¬ r.ht < l.length
  · exact place_good r hr v l w hR h.1 h.2
  · refine place_bad r hr v l w hR hn ?_
    cases hu : usB r
    · exact Or.inl rfl
    · rw [hu] at h
      exact Or.inr (by simpa using h)
set_option maxHeartbeats 8000000 in
set_option maxRecDepth 100000 in
theorem echeck_any (vr vg : Value) (e : Ev) (R : List Rg) (w : World) (hR : RowsR w vr e.rows) (hG : RgsR w vg R) (hf : evFit e) (hok : ∀ r ∈ R, r.ok) (hn : R.length ≤ 1048576) (hE : Env w) :
    Calls Tryz.prog 37 #[evV e.id e.inn e.out (ba e.reg) (e.kind : Int) (ba e.spk) vr, vg] w fun e' w' => e' = .returned (.int .i64 (evE R e)) ∧ Below w.heap.size w w' := by
  obtain ⟨a, c, rfl⟩ := hR.len
  obtain ⟨ag, cg, rfl⟩ := RowR.len hG
  have cF := fun w' h => find_any (.slice ag R.length cg) R (ba e.reg) w' h hn
  have cS := fun w' => spans_any e.inn e.out w'
  have hfo := fun r (h : fnd R (ba e.reg) = some r) => fnd_ok hok h
  have hq : evE R e = if e.id < 1 then 2 else if 1099511627776 < e.id then 2 else if okSpan e.inn e.out = false then 2 else evE3 (fnd R (ba e.reg)) e.kind e.spk e.rows := rfl
  obtain ⟨hk, hs, hrn, hrf⟩ := hf
  generalize evE R e = Z at *
  generalize fnd R (ba e.reg) = FO at *
  have HR := Lib.hid hR
  have HG := Lib.hid hG
  have HF := Lib.hid hrf
  have HFO := Lib.hid hfo
  have HQ := Lib.hid hq
  generalize okSpan e.inn e.out = SP at *
  generalize ba e.reg = x2 at *
  have hem := ba_empty e.spk
  have cNm := fun w' => name_any (ba e.spk) w' (by rw [ba_size]; omega)
  rw [ba_data] at cNm
  generalize e.rows = L at *
  generalize e.id = x0 at *
  generalize e.inn = x1 at *
  generalize e.out = x1' at *
  generalize e.kind = x3 at *
  clear hR hG hrf hfo hq hok
  cases FO
  case none =>
    have cF : ∀ w' (h : RgsR w' (.slice ag R.length cg) R), Calls Tryz.prog 65 #[.slice ag R.length cg, .string x2] w' fun e w'' => e = .returned (.tuple #[rgV ⟨#[]⟩ 0 0 0 0 0 false, .bool false]) ∧ Below w'.heap.size w' w'' := cF
    go_enter Tryz.func37, Tryz.ntmps37
    go_wp2_with fail
    refine (cF _ (RowR.alloc HG.out _)).mono ?_
    rintro e' w1 ⟨rfl, hb1⟩
    have HE1 := Lib.hid (blk_stay (heap_alloc_new w _) hb1)
    have HB1 := Lib.hid (below_grow (below1 (B := w.heap.size) (.cells #[.int .i64 x0, .int .i64 x1, .int .i64 x1', .string x2, .int .u8 (x3 : Int), .string (ba e.spk), .slice a L.length c] 63) (Nat.le_refl _)) (by simp) hb1)
    have hsz1 := HB1.out.size
    obtain ⟨c0, c1, c2, c3, c4, c5, c6, cf, hlt0⟩ := blk7 HE1.out
    clear hb1 HG cF
    by_cases h0 : x0 < 1
    · have HZ : Hid (Z = 2) := Lib.hid (by rw [HQ.out, if_pos h0])
      clear HQ
      go_wp2_with fail
      go_ret
      exact ⟨ret_int HZ.out.symm, HB1.out.alloc hsz1 _⟩
    by_cases h1 : 1099511627776 < x0
    · have HZ : Hid (Z = 2) := Lib.hid (by rw [HQ.out, if_neg h0, if_pos h1])
      clear HQ
      go_wp2_with fail
      go_ret
      exact ⟨ret_int HZ.out.symm, HB1.out.alloc hsz1 _⟩
    have HQ1 := Lib.hid (HQ.out.trans (by rw [if_neg h0, if_neg h1]))
    have d0 : decide (x0 < 1) = false := by simpa using h0
    have d1 : decide (1099511627776 < x0) = false := by simpa using h1
    clear h0 h1 HQ
    go_wp2_with fail
    refine (cS _).mono ?_
    rintro e' w2 ⟨rfl, hb2⟩
    have HE2 := Lib.hid (blk_stay (blk_stay HE1.out (below1 _ (Nat.le_refl _))) hb2)
    have HR2 : Hid (w2.heap[w1.heap.size]? = some (.cells #[.string ⟨#[]⟩, .int .i64 0, .int .i64 0, .int .i64 0, .int .i64 0, .int .u8 0, .bool false] 56 (0, 0))) := Lib.hid (blk_stay (heap_alloc_new w1 _) hb2)
    have HB2 := Lib.hid (below_grow (HB1.out.alloc hsz1 _) (by simp; omega) hb2)
    clear hb2 cS c0 c1 c2 c3 c4 c5 c6 cf hlt0 HE1
    have hsz2 := HB2.out.size
    obtain ⟨c0, c1, c2, c3, c4, c5, c6, cf, hlt0⟩ := blk7 HE2.out
    cases SP
    · have HZ : Hid (Z = 2) := Lib.hid (by rw [HQ1.out]; rfl)
      clear HQ1
      go_wp2_with fail
      go_ret
      exact ⟨ret_int HZ.out.symm, HB2.out⟩
    have HZ : Hid (Z = 6) := Lib.hid (by rw [HQ1.out]; rfl)
    clear HQ1
    go_wp2_with fail
    go_ret
    exact ⟨ret_int HZ.out.symm, HB2.out⟩
  case some r =>
    have cF : ∀ w' (h : RgsR w' (.slice ag R.length cg) R), Calls Tryz.prog 65 #[.slice ag R.length cg, .string x2] w' fun e w'' => e = .returned (.tuple #[rgV r.nm r.top r.ht r.lf r.wd r.al r.bot, .bool true]) ∧ Below w'.heap.size w' w'' := cF
    go_enter Tryz.func37, Tryz.ntmps37
    go_wp2_with fail
    refine (cF _ (RowR.alloc HG.out _)).mono ?_
    rintro e' w1 ⟨rfl, hb1⟩
    have HE1 := Lib.hid (blk_stay (heap_alloc_new w _) hb1)
    have HB1 := Lib.hid (below_grow (below1 (B := w.heap.size) (.cells #[.int .i64 x0, .int .i64 x1, .int .i64 x1', .string x2, .int .u8 (x3 : Int), .string (ba e.spk), .slice a L.length c] 63) (Nat.le_refl _)) (by simp) hb1)
    have hsz1 := HB1.out.size
    obtain ⟨c0, c1, c2, c3, c4, c5, c6, cf, hlt0⟩ := blk7 HE1.out
    clear hb1 HG cF
    by_cases h0 : x0 < 1
    · have HZ : Hid (Z = 2) := Lib.hid (by rw [HQ.out, if_pos h0])
      clear HQ
      go_wp2_with fail
      go_ret
      exact ⟨ret_int HZ.out.symm, HB1.out.alloc hsz1 _⟩
    by_cases h1 : 1099511627776 < x0
    · have HZ : Hid (Z = 2) := Lib.hid (by rw [HQ.out, if_neg h0, if_pos h1])
      clear HQ
      go_wp2_with fail
      go_ret
      exact ⟨ret_int HZ.out.symm, HB1.out.alloc hsz1 _⟩
    have HQ1 := Lib.hid (HQ.out.trans (by rw [if_neg h0, if_neg h1]))
    have d0 : decide (x0 < 1) = false := by simpa using h0
    have d1 : decide (1099511627776 < x0) = false := by simpa using h1
    clear h0 h1 HQ
    go_wp2_with fail
    refine (cS _).mono ?_
    rintro e' w2 ⟨rfl, hb2⟩
    have HE2 := Lib.hid (blk_stay (blk_stay HE1.out (below1 _ (Nat.le_refl _))) hb2)
    have HR2 : Hid (w2.heap[w1.heap.size]? = some (.cells #[.string r.nm, .int .i64 r.top, .int .i64 r.ht, .int .i64 r.lf, .int .i64 r.wd, .int .u8 (r.al : Int), .bool r.bot] 56 (0, 0))) := Lib.hid (blk_stay (heap_alloc_new w1 _) hb2)
    have HB2 := Lib.hid (below_grow (HB1.out.alloc hsz1 _) (by simp; omega) hb2)
    clear hb2 cS c0 c1 c2 c3 c4 c5 c6 cf hlt0 HE1
    have hsz2 := HB2.out.size
    obtain ⟨c0, c1, c2, c3, c4, c5, c6, cf, hlt0⟩ := blk7 HE2.out
    cases SP
    · have HZ : Hid (Z = 2) := Lib.hid (by rw [HQ1.out]; rfl)
      clear HQ1
      go_wp2_with fail
      go_ret
      exact ⟨ret_int HZ.out.symm, HB2.out⟩
    have hr := HFO.out r rfl
    have HQ2 : Hid (Z = evE2 r x3 e.spk L) := Lib.hid (by rw [HQ1.out]; rfl)
    clear HQ1 HFO
    by_cases hkb : x3 < 1 ∨ 4 < x3
    · have HZ : Hid (Z = 3) := Lib.hid (by rw [HQ2.out]; unfold evE2; rw [if_pos hkb])
      clear HQ2
      go_wp2_with fail
      refine (kind_bad _ hk hkb _).mono ?_
      rintro e' w3 ⟨rfl, rfl⟩
      go_wp2_with fail
      go_ret
      exact ⟨ret_int HZ.out.symm, HB2.out⟩
    have HQ3 : Hid (Z = if e.spk ≠ [] ∧ nameOk e.spk = false then 5 else if L.length = 0 ∨ 4 < L.length then 9 else if fnz (rowsE L) 0 L.length = 0 then plE r (L.map lenR) else fnz (rowsE L) 0 L.length) := Lib.hid (by rw [HQ2.out]; unfold evE2; rw [if_neg hkb])
    have hk1 : 1 ≤ x3 := by omega
    have hk4 : x3 ≤ 4 := by omega
    clear HQ2 hkb
    go_wp2_with fail
    refine (kind_good x3 hk1 hk4 _).mono ?_
    rintro e' w3 ⟨⟨ks, rfl, hks⟩, hb3⟩
    have HE3 := Lib.hid (blk_stay HE2.out hb3)
    have HR3 := Lib.hid (blk_stay HR2.out hb3)
    have HB3 := Lib.hid (below_grow HB2.out hsz2 hb3)
    clear hb3 c0 c1 c2 c3 c4 c5 c6 cf hlt0 HE2 HR2 hk1 hk4 hk
    have hsz3 := HB3.out.size
    obtain ⟨c0, c1, c2, c3, c4, c5, c6, cf, hlt0⟩ := blk7 HE3.out
    generalize nameOk e.spk = NM at *
    by_cases hsp : e.spk = []
    · have hem2 : (ba e.spk).toList.isEmpty = true := by rw [hem]; simpa using hsp
      clear hem
      have HQ4 : Hid (Z = if L.length = 0 ∨ 4 < L.length then 9 else if fnz (rowsE L) 0 L.length = 0 then plE r (L.map lenR) else fnz (rowsE L) 0 L.length) := Lib.hid (by rw [HQ3.out, if_neg (by simp [hsp])])
      clear HQ3 hsp
      by_cases hl : L.length = 0 ∨ 4 < L.length
      · have HZ : Hid (Z = 9) := Lib.hid (by rw [HQ4.out, if_pos hl])
        clear HQ4
        rcases hl with hl | hl
        · have hlz : ((L.length : Int) == 0) = true := by simp [hl]
          clear hl
          go_wp2_with fail
          go_ret
          exact ⟨ret_int HZ.out.symm, HB3.out⟩
        · have hlz : ((L.length : Int) == 0) = false := beq_eq_false_iff_ne.2 (by omega)
          have hlz4 : (4 : Int) < (L.length : Int) := by omega
          go_wp2_with fail
          go_ret
          exact ⟨ret_int HZ.out.symm, HB3.out⟩
      have HQ5 : Hid (Z = if fnz (rowsE L) 0 (L.length - 0) = 0 then plE r (L.map lenR) else fnz (rowsE L) 0 (L.length - 0)) := Lib.hid (by rw [HQ4.out, if_neg hl]; rfl)
      have hlz : ((L.length : Int) == 0) = false := beq_eq_false_iff_ne.2 (by omega)
      have hlz4 : ¬ (4 : Int) < (L.length : Int) := by omega
      clear HQ4 hl
      have HS := Lib.hid (fnz_step (rowsE L))
      go_wp2_with fail
      clear c0 c1 c2 c3 c4 c5 c6 cf hlt0 hks
      obtain ⟨V, hV⟩ : ∃ V, fnz (rowsE L) 0 (L.length - 0) = V := ⟨_, rfl⟩
      have HV := Lib.hid hV
      rw [hV] at HQ5
      clear hV
      go_loopw [66] (fun v wx => ∃ i : Nat, v = .int .i64 i ∧ i ≤ L.length ∧ Hid (fnz (rowsE L) i (L.length - i) = V) ∧ Hid (Below w3.heap.size w3 wx)) (fun v _ => L.length - (intOf v).toNat)
      case atStart => exact ⟨0, rfl, Nat.zero_le _, HV, Lib.hid (Below.refl _ _)⟩
      case round =>
        clear HV
        obtain ⟨i, rfl, hil, HV, HBw⟩ := hrel
        have HBr := Lib.hid (below_grow HB3.out hsz3 HBw.out)
        have hszr := HBr.out.size
        by_cases hlt : i < L.length
        · have hiz : (i : Int) < (L.length : Int) := by omega
          have hRr := HR.out.below HBr.out
          obtain ⟨g, off, rfl, hg⟩ := hRr.addr (by omega)
          obtain ⟨u', c0, hu⟩ := hRr.at rfl i hlt
          have hfit := HF.out (L.getD i []) (by rw [getD_of hlt]; exact List.getElem_mem hlt)
          have cW := fun w' h hE => row_any u' (L.getD i []) w' h hfit hE
          have hEr := hE.below HBr.out
          have HU := Lib.hid (RowR.alloc hu (.cells #[u'] 71))
          have hv := HV.out
          rw [HS.out i L.length hlt, show rowsE L i = rowE (L.getD i []) from rfl] at hv
          obtain ⟨au, cu, rfl⟩ := RowR.len hu
          clear hRr hu hfit
          generalize rowE (L.getD i []) = N at *
          generalize L.getD i [] = Y at *
          have hE2 := hEr.below (below1 (.cells #[.slice au Y.length cu] 71) (Nat.le_refl _))
          by_cases hN : N = 0
          · have HV2 : Hid (fnz (rowsE L) (i + 1) (L.length - (i + 1)) = V) := Lib.hid (by rw [if_pos hN] at hv; exact hv)
            subst hN
            clear hv HV
            go_wp2_with fail
            refine (cW _ HU.out hE2).mono ?_
            rintro e' w4 ⟨rfl, hb4⟩
            have HB4 := Lib.hid (below_grow (HBw.out.alloc HBw.out.size (.cells #[.slice au Y.length cu] 71)) (by have := HBw.out.size; simp; omega) hb4)
            go_wp2_with fail
            go_roundw
            case rel => exact ⟨i + 1, by go_num, by omega, HV2, HB4⟩
            case measure => simp [intOf]; omega
          · have HZ : Hid (Z = N) := Lib.hid (by rw [if_neg hN] at hv; subst hv; rw [HQ5.out, if_neg hN])
            have hNz : (N == 0) = false := by simpa using hN
            clear hv HV hN HQ5
            go_wp2_with fail
            refine (cW _ HU.out hE2).mono ?_
            rintro e' w4 ⟨rfl, hb4⟩
            have HB4 := Lib.hid (below_grow (HBr.out.alloc hszr (.cells #[.slice au Y.length cu] 71)) (by simp; omega) hb4)
            go_wp2_with fail
            go_ret
            exact ⟨ret_int HZ.out.symm, HB4.out⟩
        · obtain rfl : i = L.length := by omega
          have hv := HV.out
          rw [fnz_end] at hv
          have HZ : Hid (Z = plE r (L.map lenR)) := Lib.hid (by rw [HQ5.out, if_pos hv.symm])
          clear hv HV HQ5
          have hiz : ¬ (L.length : Int) < (L.length : Int) := by omega
          have HEr := Lib.hid (blk_stay HE3.out HBw.out)
          have HRr := Lib.hid (blk_stay HR3.out HBw.out)
          have HBd : Hid (Below w.heap.size w wr.drew) := Lib.hid HBr.out.drew
          obtain ⟨c0, c1, c2, c3, c4, c5, c6, cf, hlt0⟩ := blk7 HEr.out
          obtain ⟨d0', d1', d2, d3, d4, d5, d6, df, dlt0⟩ := blk7 HRr.out
          have hEr := hE.below HBr.out
          have HRR := Lib.hid (HR.out.below HBr.out)
          have hff : rowsFit L := fun x hx => ⟨(HF.out x hx).n, (HF.out x hx).t⟩
          have cLn := fun w' h hE => lens_any x0 x1 x1' x2 (ba e.spk) (x3 : Int) (.slice a L.length c) L w' h hrn hff hE
          have HLL := Lib.hid (show (L.map lenR).length = L.length by simp)
          have cPl := fun v w' (h : RowR w' 1 v (L.map lenR).length (icells (L.map lenR))) => rplace_any r hr v (L.map lenR) w' h (by rw [HLL.out]; exact hrn)
          clear hff
          go_wp2_with fail
          go_region_held3 (fun w' => w'.cell? ⟨w1.heap.size, 0, none⟩ = some (.string r.nm) ∧ w'.cell? ⟨w1.heap.size, 1, none⟩ = some (.int .i64 r.top) ∧ w'.cell? ⟨w1.heap.size, 2, none⟩ = some (.int .i64 r.ht) ∧ w'.cell? ⟨w1.heap.size, 3, none⟩ = some (.int .i64 r.lf) ∧ w'.cell? ⟨w1.heap.size, 4, none⟩ = some (.int .i64 r.wd) ∧ w'.cell? ⟨w1.heap.size, 5, none⟩ = some (.int .u8 (r.al : Int)) ∧ w'.cell? ⟨w1.heap.size, 6, none⟩ = some (.bool r.bot) ∧ w'.cell? ⟨w.heap.size, 0, none⟩ = some (.int .i64 x0) ∧ w'.cell? ⟨w.heap.size, 1, none⟩ = some (.int .i64 x1) ∧ w'.cell? ⟨w.heap.size, 2, none⟩ = some (.int .i64 x1') ∧ w'.cell? ⟨w.heap.size, 3, none⟩ = some (.string x2) ∧ w'.cell? ⟨w.heap.size, 4, none⟩ = some (.int .u8 (x3 : Int)) ∧ w'.cell? ⟨w.heap.size, 5, none⟩ = some (.string (ba e.spk)) ∧ w'.cell? ⟨w.heap.size, 6, none⟩ = some (.slice a L.length c) ∧ Below w.heap.size w w')
            (first | exact ⟨d0', d1', d2, d3, d4, d5, d6, c0, c1, c2, c3, c4, c5, c6, HBd.out⟩ | exact keep14 (by assumption) hb5 | exact keep14 (by assumption) hb6)
            (first | ((go_at_call 71; refine (cLn _ (HR.out.below (last14 (by assumption))) (hE.below (last14 (by assumption)))).mono ?_; rintro e' w5 ⟨vl, rfl, hol, hb5⟩; obtain ⟨al, cl, rfl⟩ := own_len hol)) | ((go_at_call 70; refine (cPl _ _ (by rw [HLL.out]; exact RowR.of_own hol)).mono ?_; rintro e' w6 ⟨⟨vp, rfl⟩, hb6⟩)))
          rename_i hH
          have HBf := last14 hH
          clear hH hb5 hb6 hol
          go_wp2_with fail
          go_ret
          exact ⟨ret_int HZ.out.symm, HBf⟩
    have hem2 : (ba e.spk).toList.isEmpty = false := by rw [hem]; simpa using hsp
    clear hem
    cases NM
    · have HZ : Hid (Z = 5) := Lib.hid (by rw [HQ3.out, if_pos ⟨hsp, rfl⟩])
      clear HQ3 hsp
      go_wp2_with fail
      refine (cNm _).mono ?_
      rintro e' w4 ⟨rfl, rfl⟩
      go_wp2_with fail
      go_ret
      exact ⟨ret_int HZ.out.symm, HB3.out⟩
    have HQ4 : Hid (Z = if L.length = 0 ∨ 4 < L.length then 9 else if fnz (rowsE L) 0 L.length = 0 then plE r (L.map lenR) else fnz (rowsE L) 0 L.length) := Lib.hid (by rw [HQ3.out, if_neg (by simp [hsp])])
    clear HQ3 hsp
    by_cases hl : L.length = 0 ∨ 4 < L.length
    · have HZ : Hid (Z = 9) := Lib.hid (by rw [HQ4.out, if_pos hl])
      clear HQ4
      rcases hl with hl | hl
      · have hlz : ((L.length : Int) == 0) = true := by simp [hl]
        clear hl
        go_wp2_with fail
        refine (cNm _).mono ?_
        rintro e' w4 ⟨rfl, rfl⟩
        go_wp2_with fail
        go_ret
        exact ⟨ret_int HZ.out.symm, HB3.out⟩
      · have hlz : ((L.length : Int) == 0) = false := beq_eq_false_iff_ne.2 (by omega)
        have hlz4 : (4 : Int) < (L.length : Int) := by omega
        go_wp2_with fail
        refine (cNm _).mono ?_
        rintro e' w4 ⟨rfl, rfl⟩
        go_wp2_with fail
        go_ret
        exact ⟨ret_int HZ.out.symm, HB3.out⟩
    have HQ5 : Hid (Z = if fnz (rowsE L) 0 (L.length - 0) = 0 then plE r (L.map lenR) else fnz (rowsE L) 0 (L.length - 0)) := Lib.hid (by rw [HQ4.out, if_neg hl]; rfl)
    have hlz : ((L.length : Int) == 0) = false := beq_eq_false_iff_ne.2 (by omega)
    have hlz4 : ¬ (4 : Int) < (L.length : Int) := by omega
    clear HQ4 hl
    have HS := Lib.hid (fnz_step (rowsE L))
    go_wp2_with fail
    refine (cNm _).mono ?_
    rintro e' w4 ⟨rfl, rfl⟩
    go_wp2_with fail
    clear c0 c1 c2 c3 c4 c5 c6 cf hlt0 hks
    obtain ⟨V, hV⟩ : ∃ V, fnz (rowsE L) 0 (L.length - 0) = V := ⟨_, rfl⟩
    have HV := Lib.hid hV
    rw [hV] at HQ5
    clear hV
    go_loopw [66] (fun v wx => ∃ i : Nat, v = .int .i64 i ∧ i ≤ L.length ∧ Hid (fnz (rowsE L) i (L.length - i) = V) ∧ Hid (Below w3.heap.size w3 wx)) (fun v _ => L.length - (intOf v).toNat)
    case atStart => exact ⟨0, rfl, Nat.zero_le _, HV, Lib.hid (Below.refl _ _)⟩
    case round =>
      clear HV
      obtain ⟨i, rfl, hil, HV, HBw⟩ := hrel
      have HBr := Lib.hid (below_grow HB3.out hsz3 HBw.out)
      have hszr := HBr.out.size
      by_cases hlt : i < L.length
      · have hiz : (i : Int) < (L.length : Int) := by omega
        have hRr := HR.out.below HBr.out
        obtain ⟨g, off, rfl, hg⟩ := hRr.addr (by omega)
        obtain ⟨u', c0, hu⟩ := hRr.at rfl i hlt
        have hfit := HF.out (L.getD i []) (by rw [getD_of hlt]; exact List.getElem_mem hlt)
        have cW := fun w' h hE => row_any u' (L.getD i []) w' h hfit hE
        have hEr := hE.below HBr.out
        have HU := Lib.hid (RowR.alloc hu (.cells #[u'] 71))
        have hv := HV.out
        rw [HS.out i L.length hlt, show rowsE L i = rowE (L.getD i []) from rfl] at hv
        obtain ⟨au, cu, rfl⟩ := RowR.len hu
        clear hRr hu hfit
        generalize rowE (L.getD i []) = N at *
        generalize L.getD i [] = Y at *
        have hE2 := hEr.below (below1 (.cells #[.slice au Y.length cu] 71) (Nat.le_refl _))
        by_cases hN : N = 0
        · have HV2 : Hid (fnz (rowsE L) (i + 1) (L.length - (i + 1)) = V) := Lib.hid (by rw [if_pos hN] at hv; exact hv)
          subst hN
          clear hv HV
          go_wp2_with fail
          refine (cW _ HU.out hE2).mono ?_
          rintro e' w4 ⟨rfl, hb4⟩
          have HB4 := Lib.hid (below_grow (HBw.out.alloc HBw.out.size (.cells #[.slice au Y.length cu] 71)) (by have := HBw.out.size; simp; omega) hb4)
          go_wp2_with fail
          go_roundw
          case rel => exact ⟨i + 1, by go_num, by omega, HV2, HB4⟩
          case measure => simp [intOf]; omega
        · have HZ : Hid (Z = N) := Lib.hid (by rw [if_neg hN] at hv; subst hv; rw [HQ5.out, if_neg hN])
          have hNz : (N == 0) = false := by simpa using hN
          clear hv HV hN HQ5
          go_wp2_with fail
          refine (cW _ HU.out hE2).mono ?_
          rintro e' w4 ⟨rfl, hb4⟩
          have HB4 := Lib.hid (below_grow (HBr.out.alloc hszr (.cells #[.slice au Y.length cu] 71)) (by simp; omega) hb4)
          go_wp2_with fail
          go_ret
          exact ⟨ret_int HZ.out.symm, HB4.out⟩
      · obtain rfl : i = L.length := by omega
        have hv := HV.out
        rw [fnz_end] at hv
        have HZ : Hid (Z = plE r (L.map lenR)) := Lib.hid (by rw [HQ5.out, if_pos hv.symm])
        clear hv HV HQ5
        have hiz : ¬ (L.length : Int) < (L.length : Int) := by omega
        have HEr := Lib.hid (blk_stay HE3.out HBw.out)
        have HRr := Lib.hid (blk_stay HR3.out HBw.out)
        have HBd : Hid (Below w.heap.size w wr.drew) := Lib.hid HBr.out.drew
        obtain ⟨c0, c1, c2, c3, c4, c5, c6, cf, hlt0⟩ := blk7 HEr.out
        obtain ⟨d0', d1', d2, d3, d4, d5, d6, df, dlt0⟩ := blk7 HRr.out
        have hEr := hE.below HBr.out
        have HRR := Lib.hid (HR.out.below HBr.out)
        have hff : rowsFit L := fun x hx => ⟨(HF.out x hx).n, (HF.out x hx).t⟩
        have cLn := fun w' h hE => lens_any x0 x1 x1' x2 (ba e.spk) (x3 : Int) (.slice a L.length c) L w' h hrn hff hE
        have HLL := Lib.hid (show (L.map lenR).length = L.length by simp)
        have cPl := fun v w' (h : RowR w' 1 v (L.map lenR).length (icells (L.map lenR))) => rplace_any r hr v (L.map lenR) w' h (by rw [HLL.out]; exact hrn)
        clear hff
        go_wp2_with fail
        go_region_held3 (fun w' => w'.cell? ⟨w1.heap.size, 0, none⟩ = some (.string r.nm) ∧ w'.cell? ⟨w1.heap.size, 1, none⟩ = some (.int .i64 r.top) ∧ w'.cell? ⟨w1.heap.size, 2, none⟩ = some (.int .i64 r.ht) ∧ w'.cell? ⟨w1.heap.size, 3, none⟩ = some (.int .i64 r.lf) ∧ w'.cell? ⟨w1.heap.size, 4, none⟩ = some (.int .i64 r.wd) ∧ w'.cell? ⟨w1.heap.size, 5, none⟩ = some (.int .u8 (r.al : Int)) ∧ w'.cell? ⟨w1.heap.size, 6, none⟩ = some (.bool r.bot) ∧ w'.cell? ⟨w.heap.size, 0, none⟩ = some (.int .i64 x0) ∧ w'.cell? ⟨w.heap.size, 1, none⟩ = some (.int .i64 x1) ∧ w'.cell? ⟨w.heap.size, 2, none⟩ = some (.int .i64 x1') ∧ w'.cell? ⟨w.heap.size, 3, none⟩ = some (.string x2) ∧ w'.cell? ⟨w.heap.size, 4, none⟩ = some (.int .u8 (x3 : Int)) ∧ w'.cell? ⟨w.heap.size, 5, none⟩ = some (.string (ba e.spk)) ∧ w'.cell? ⟨w.heap.size, 6, none⟩ = some (.slice a L.length c) ∧ Below w.heap.size w w')
          (first | exact ⟨d0', d1', d2, d3, d4, d5, d6, c0, c1, c2, c3, c4, c5, c6, HBd.out⟩ | exact keep14 (by assumption) hb5 | exact keep14 (by assumption) hb6)
          (first | ((go_at_call 71; refine (cLn _ (HR.out.below (last14 (by assumption))) (hE.below (last14 (by assumption)))).mono ?_; rintro e' w5 ⟨vl, rfl, hol, hb5⟩; obtain ⟨al, cl, rfl⟩ := own_len hol)) | ((go_at_call 70; refine (cPl _ _ (by rw [HLL.out]; exact RowR.of_own hol)).mono ?_; rintro e' w6 ⟨⟨vp, rfl⟩, hb6⟩)))
        rename_i hH
        have HBf := last14 hH
        clear hH hb5 hb6 hol
        go_wp2_with fail
        go_ret
        exact ⟨ret_int HZ.out.symm, HBf⟩
end Go.Proofs.YtgiaohccebolpaaGreatDoor
