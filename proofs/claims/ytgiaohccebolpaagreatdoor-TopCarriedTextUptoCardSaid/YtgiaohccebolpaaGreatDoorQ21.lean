import Derived.Test.YtgiaohccebolpaaGreatDoorQ20
import Derived.Deep.RegionHeld3
import Derived.Deep.RegionHeld
import Derived.Deep.AppendLies
namespace Go.Proofs.YtgiaohccebolpaaGreatDoor
open Go Go.RowKit
open Go.Lib hiding intOf
set_option linter.unusedVariables false
attribute [local go_sem ↓] ne111_same eq59_same eq51_same ne59_same
theorem keepA16 {a0 a1 a2 a3 a4 a5 a6 a7 a8 a9 a10 a11 a12 a13 a14 a15 : Addr} {w w' w'' : World} {v0 v1 v2 v3 v4 v5 v6 v7 v8 v9 v10 v11 v12 v13 v14 v15 : Value} (h : w'.cell? a0 = some v0 ∧ w'.cell? a1 = some v1 ∧ w'.cell? a2 = some v2 ∧ w'.cell? a3 = some v3 ∧ w'.cell? a4 = some v4 ∧ w'.cell? a5 = some v5 ∧ w'.cell? a6 = some v6 ∧ w'.cell? a7 = some v7 ∧ w'.cell? a8 = some v8 ∧ w'.cell? a9 = some v9 ∧ w'.cell? a10 = some v10 ∧ w'.cell? a11 = some v11 ∧ w'.cell? a12 = some v12 ∧ w'.cell? a13 = some v13 ∧ w'.cell? a14 = some v14 ∧ w'.cell? a15 = some v15 ∧ Below w.heap.size w w') (hb : Below w'.heap.size w' w'') : w''.cell? a0 = some v0 ∧ w''.cell? a1 = some v1 ∧ w''.cell? a2 = some v2 ∧ w''.cell? a3 = some v3 ∧ w''.cell? a4 = some v4 ∧ w''.cell? a5 = some v5 ∧ w''.cell? a6 = some v6 ∧ w''.cell? a7 = some v7 ∧ w''.cell? a8 = some v8 ∧ w''.cell? a9 = some v9 ∧ w''.cell? a10 = some v10 ∧ w''.cell? a11 = some v11 ∧ w''.cell? a12 = some v12 ∧ w''.cell? a13 = some v13 ∧ w''.cell? a14 = some v14 ∧ w''.cell? a15 = some v15 ∧ Below w.heap.size w w'' := by
  obtain ⟨k0, k1, k2, k3, k4, k5, k6, k7, k8, k9, k10, k11, k12, k13, k14, k15, hw⟩ := h
  exact ⟨(hb.cell (cell_lt k0)).trans k0, (hb.cell (cell_lt k1)).trans k1, (hb.cell (cell_lt k2)).trans k2, (hb.cell (cell_lt k3)).trans k3, (hb.cell (cell_lt k4)).trans k4, (hb.cell (cell_lt k5)).trans k5, (hb.cell (cell_lt k6)).trans k6, (hb.cell (cell_lt k7)).trans k7, (hb.cell (cell_lt k8)).trans k8, (hb.cell (cell_lt k9)).trans k9, (hb.cell (cell_lt k10)).trans k10, (hb.cell (cell_lt k11)).trans k11, (hb.cell (cell_lt k12)).trans k12, (hb.cell (cell_lt k13)).trans k13, (hb.cell (cell_lt k14)).trans k14, (hb.cell (cell_lt k15)).trans k15, below_grow hw hw.size hb⟩
theorem lastA16 {a0 a1 a2 a3 a4 a5 a6 a7 a8 a9 a10 a11 a12 a13 a14 a15 : Addr} {w w' : World} {v0 v1 v2 v3 v4 v5 v6 v7 v8 v9 v10 v11 v12 v13 v14 v15 : Value} (h : w'.cell? a0 = some v0 ∧ w'.cell? a1 = some v1 ∧ w'.cell? a2 = some v2 ∧ w'.cell? a3 = some v3 ∧ w'.cell? a4 = some v4 ∧ w'.cell? a5 = some v5 ∧ w'.cell? a6 = some v6 ∧ w'.cell? a7 = some v7 ∧ w'.cell? a8 = some v8 ∧ w'.cell? a9 = some v9 ∧ w'.cell? a10 = some v10 ∧ w'.cell? a11 = some v11 ∧ w'.cell? a12 = some v12 ∧ w'.cell? a13 = some v13 ∧ w'.cell? a14 = some v14 ∧ w'.cell? a15 = some v15 ∧ Below w.heap.size w w') : Below w.heap.size w w' := h.2.2.2.2.2.2.2.2.2.2.2.2.2.2.2.2
set_option maxHeartbeats 8000000 in
set_option maxRecDepth 100000 in
theorem same_any (v1 v2 : Value) (t l : List UInt8) (r : Nat) (dr : Bool) (last : Int) (L : List Ev) (w : World) (h1 : DocV w v1 ⟨t, l, r, dr, last, [], L, []⟩) (h2 : DocV w v2 ⟨t, l, r, dr, last, [], L, []⟩) (hn : L.length ≤ 1048576) (hf : evsFit L) :
    Calls Tryz.prog 7 #[v1, v2] w fun e w' => e = .returned (.bool true) ∧ Below w.heap.size w w' := by
  obtain ⟨vg, ve, vc, rfl, hG, hVe, hC⟩ := h1
  obtain ⟨vg', ve', vc', rfl, hG', hVe', hC'⟩ := h2
  obtain ⟨ag, cg, rfl⟩ := RowR.len hG
  obtain ⟨a1, c1, rfl⟩ := hVe.len
  obtain ⟨ac, cc, rfl⟩ := RowR.len hC
  obtain ⟨ag', cg', rfl⟩ := RowR.len hG'
  obtain ⟨a2, c2, rfl⟩ := hVe'.len
  obtain ⟨ac', cc', rfl⟩ := RowR.len hC'
  have H1 := Lib.hid hVe
  have H2 := Lib.hid hVe'
  have cE := fun w' h1 h2 => eqevs_any (.slice a1 L.length c1) (.slice a2 L.length c2) L w' h1 h2 hn hf
  have h0 := heap_alloc2_old w (.cells #[.string (ba t), .string (ba l), .int .u8 (r : Int), .bool dr, .int .i64 last, .slice ag 0 cg, .slice a1 L.length c1, .slice ac 0 cc] 27) (.cells #[.string (ba t), .string (ba l), .int .u8 (r : Int), .bool dr, .int .i64 last, .slice ag' 0 cg', .slice a2 L.length c2, .slice ac' 0 cc'] 27)
  have h1 := heap_alloc2_new w (.cells #[.string (ba t), .string (ba l), .int .u8 (r : Int), .bool dr, .int .i64 last, .slice ag 0 cg, .slice a1 L.length c1, .slice ac 0 cc] 27) (.cells #[.string (ba t), .string (ba l), .int .u8 (r : Int), .bool dr, .int .i64 last, .slice ag' 0 cg', .slice a2 L.length c2, .slice ac' 0 cc'] 27)
  have hb := (below1 (.cells #[.string (ba t), .string (ba l), .int .u8 (r : Int), .bool dr, .int .i64 last, .slice ag 0 cg, .slice a1 L.length c1, .slice ac 0 cc] 27) (Nat.le_refl w.heap.size)).alloc (by simp) (.cells #[.string (ba t), .string (ba l), .int .u8 (r : Int), .bool dr, .int .i64 last, .slice ag' 0 cg', .slice a2 L.length c2, .slice ac' 0 cc'] 27)
  dsimp only at *
  clear hG hVe hC hG' hVe' hC' hf
  go_enter Tryz.func7, Tryz.ntmps7
  go_wp2_with fail
  refine world_as (fun W => W.heap[w.heap.size]? = some (.cells #[.string (ba t), .string (ba l), .int .u8 (r : Int), .bool dr, .int .i64 last, .slice ag 0 cg, .slice a1 L.length c1, .slice ac 0 cc] 27 (0, 0)) ∧ W.heap[w.heap.size + 1]? = some (.cells #[.string (ba t), .string (ba l), .int .u8 (r : Int), .bool dr, .int .i64 last, .slice ag' 0 cg', .slice a2 L.length c2, .slice ac' 0 cc'] 27 (0, 0)) ∧ Below w.heap.size w W) ⟨h0, h1, hb⟩ ?_
  rintro W ⟨h0, h1, hb⟩
  obtain ⟨d0, d1, d2, d3, d4, d5, d6, d7, df, dl⟩ := blk8 h0
  obtain ⟨f0, f1, f2, f3, f4, f5, f6, f7, ff, fl⟩ := blk8 h1
  have hbd : Below w.heap.size w W.drew := hb.drew
  clear h0 h1 hb df dl ff fl
  go_region_held3 (fun w' => w'.cell? ⟨w.heap.size, 0, none⟩ = some (.string (ba t)) ∧ w'.cell? ⟨w.heap.size, 1, none⟩ = some (.string (ba l)) ∧ w'.cell? ⟨w.heap.size, 2, none⟩ = some (.int .u8 (r : Int)) ∧ w'.cell? ⟨w.heap.size, 3, none⟩ = some (.bool dr) ∧ w'.cell? ⟨w.heap.size, 4, none⟩ = some (.int .i64 last) ∧ w'.cell? ⟨w.heap.size, 5, none⟩ = some (.slice ag 0 cg) ∧ w'.cell? ⟨w.heap.size, 6, none⟩ = some (.slice a1 L.length c1) ∧ w'.cell? ⟨w.heap.size, 7, none⟩ = some (.slice ac 0 cc) ∧ w'.cell? ⟨w.heap.size + 1, 0, none⟩ = some (.string (ba t)) ∧ w'.cell? ⟨w.heap.size + 1, 1, none⟩ = some (.string (ba l)) ∧ w'.cell? ⟨w.heap.size + 1, 2, none⟩ = some (.int .u8 (r : Int)) ∧ w'.cell? ⟨w.heap.size + 1, 3, none⟩ = some (.bool dr) ∧ w'.cell? ⟨w.heap.size + 1, 4, none⟩ = some (.int .i64 last) ∧ w'.cell? ⟨w.heap.size + 1, 5, none⟩ = some (.slice ag' 0 cg') ∧ w'.cell? ⟨w.heap.size + 1, 6, none⟩ = some (.slice a2 L.length c2) ∧ w'.cell? ⟨w.heap.size + 1, 7, none⟩ = some (.slice ac' 0 cc') ∧ Below w.heap.size w w')
    (first | exact ⟨d0, d1, d2, d3, d4, d5, d6, d7, f0, f1, f2, f3, f4, f5, f6, f7, hbd⟩ | assumption | exact keepA16 (by assumption) hb5 | exact keepA16 (by assumption) hb7)
    (first | ((go_at_call 17; refine (head_any _ _ _ _ _ _ _ _ _ _ _ _ _ _ _).mono ?_; rintro e w5 ⟨rfl, hb5⟩)) | ((go_at_call 18; refine (eqregs_nil _ _ _ _ _).mono ?_; rintro e w6 ⟨rfl, hw6⟩; rw [hw6]; clear hw6)) | ((go_at_call 19; refine (cE _ (H1.out.below (lastA16 (by assumption))) (H2.out.below (lastA16 (by assumption)))).mono ?_; rintro e w7 ⟨rfl, hb7⟩)) | ((go_at_call 21; refine (eqcms_nil _ _ _ _ _).mono ?_; rintro e w8 ⟨rfl, hw8⟩; rw [hw8]; clear hw8)))
  rename_i hH
  have hB := lastA16 hH
  clear hH
  go_wp2_with fail
  go_ret
  exact ⟨rfl, hB⟩
end Go.Proofs.YtgiaohccebolpaaGreatDoor
namespace Go.Proofs.YtgiaohccebolpaaGreatDoor
open Go Go.RowKit
open Go.Lib hiding intOf
set_option linter.unusedVariables false
/-! ### event.Plain, and the texts of two documents -/
def pcells (L : List Rw) : List Value := L.map (fun r => .string (ba (plainR r)))
theorem pcells_take (L : List Rw) (i : Nat) (h : i < L.length) : pcells (L.take (i + 1)) = pcells (L.take i) ++ [.string (ba (plainR (L.getD i [])))] := by
  rw [List.take_succ_eq_append_getElem h, getD_of h]; unfold pcells; rw [List.map_append]; rfl
def evPlain (L : List Rw) : List UInt8 := Lib.join (L.map plainR) [10]
theorem evPlain_car (L : List Rw) : evPlain (L.map carR) = evPlain L := by
  unfold evPlain
  rw [List.map_map]
  congr 1
  exact List.map_congr_left fun r _ => plain_carR r
theorem lens_plain : ∀ L : List Rw, (∀ r ∈ L, rowFit r) → Lib.lens (L.map plainR) ≤ 1048576 * L.length
  | [], _ => Nat.zero_le _
  | r :: L, h => by
    have h1 := (h r List.mem_cons_self).t
    have h2 := lens_plain L (fun x hx => h x (List.mem_cons_of_mem _ hx))
    have e : Lib.lens ((r :: L).map plainR) = (plainR r).length + Lib.lens (L.map plainR) := by simp [Lib.lens]
    rw [e, plainR_len, List.length_cons]; omega
set_option maxHeartbeats 4000000 in
set_option maxRecDepth 100000 in
theorem eplain_any (id inn out : Int) (reg spk : ByteArray) (kind : Int) (v : Value) (L : List Rw) (w : World) (hR : RowsR w v L) (hn : L.length ≤ 4) (hf : ∀ r ∈ L, rowFit r) :
    Calls Tryz.prog 24 #[evV id inn out reg kind spk v] w fun e w' => e = .returned (.string (ba (evPlain L))) ∧ Below w.heap.size w w' := by
  obtain ⟨i0, hi, iz0, iz1, iz2⟩ := info_parts info9
  obtain ⟨a, c, rfl⟩ := hR.len
  have HR := Lib.hid hR
  have HF : Hid (∀ i, i < L.length → rowFit (L.getD i [])) := Lib.hid (fun i hi => by rw [getD_of hi]; exact hf _ (List.getElem_mem hi))
  have HS := Lib.hid (pcells_take L)
  have hlen : (Lib.join (L.map plainR) [10]).length ≤ 140737488355328 := by
    have hl := lens_plain L hf
    cases L with
    | nil => simp [Lib.join_nil]
    | cons r L =>
      rw [List.map_cons, Lib.join_length, ← List.map_cons (f := plainR)]
      rw [List.length_cons] at hn hl
      simp only [List.length_map, List.length_cons, List.length_nil]
      omega
  have HL := Lib.hid hlen
  clear hR hf hlen
  go_enter Tryz.func24, Tryz.ntmps24
  go_wp2_with fail
  go_loopw [9, 3] (fun v u wx => ∃ i : Nat, v = .int .i64 i ∧ i ≤ L.length ∧ Hid (wx.ownsRow w.heap.size 9 1 u i (pcells (L.take i))) ∧ Hid (Below w.heap.size w wx)) (fun v _ _ => L.length - (intOf v).toNat)
  case atStart => exact ⟨0, rfl, Nat.zero_le _, Lib.hid (World.ownsRow_nil _ _ _ _), Lib.hid (below1 _ (Nat.le_refl _))⟩
  case round =>
    obtain ⟨i, rfl, hil, HO, HB⟩ := hrel
    have hsz := HB.out.size
    obtain ⟨au, cu, rfl⟩ := own_len HO.out
    by_cases hlt : i < L.length
    · have hiz : (i : Int) < (L.length : Int) := by omega
      have hRr := HR.out.below HB.out
      obtain ⟨g, off, rfl, hg⟩ := hRr.addr (by omega)
      obtain ⟨u, hcu, hru⟩ := hRr.at rfl i hlt
      have hfi := HF.out i hlt
      have hs := HS.out i hlt
      clear hRr
      generalize L.getD i [] = X at *
      obtain ⟨a3, c3, rfl⟩ := RowR.len hru
      have cP := fun w' h => plain_any (.slice a3 X.length c3) X w' h hfi.n hfi.t
      have HRU := Lib.hid hru
      have HS2 := Lib.hid hs
      clear hru hs hfi
      go_wp2_with fail
      refine (cP _ (HRU.out.below (below1 _ (Nat.le_refl _)))).mono ?_
      rintro e w2 ⟨rfl, hb2⟩
      have hb3 := (below1 (.cells #[.slice a3 X.length c3] 71) (Nat.le_refl wr.heap.size)).trans (hb2.mono (by simp))
      have how := own_stays HO.out hb3
      have HB3 := Lib.hid (below_grow HB.out hsz hb3)
      have hsz3 := HB3.out.size
      clear hb2 hb3 hcu
      go_wp2_with (at_builtin; refine wpList_append_row rfl _ _ 45 rfl w.heap.size 9 i0 _ 1 16 Tryz.underlying45 hi iz0 iz1 iz2 rfl (by decide) _ _ _ rfl (how.alloc _) _ 1 _ rfl (lit_row _ _ _ rfl rfl) (one_lit rfl) ?c3 ?c4 ?c5 ?_)
      case c3 => unfold maxLen; omega
      case c4 => omega
      case c5 => simp; omega
      intro v4 w4 how4 hgrow4 _
      have how5 : w4.ownsRow w.heap.size 9 1 v4 (i + 1) (pcells (L.take (i + 1))) := by rw [HS2.out]; exact how4
      have HO5 := Lib.hid how5
      have HB5 := Lib.hid (app_step (how.alloc _) (HB3.out.alloc hsz3 _) (by simp; omega) hgrow4)
      clear how4 how5 hgrow4 how
      go_wp2_with fail
      go_roundw
      case rel => exact ⟨i + 1, by go_num, by omega, HO5, HB5⟩
      case measure => simp [intOf]; omega
    · obtain rfl : i = L.length := by omega
      have hiz : ¬ (L.length : Int) < (L.length : Int) := by omega
      have hO := HO.out
      rw [List.take_length] at hO
      have hx : (((L.map plainR).map ba).map (·.data.toList)) = L.map plainR := by
        rw [List.map_map]; simp [Function.comp_def, ba_data]
      by_cases h0 : L.length = 0
      · have hL : L = [] := List.length_eq_zero_iff.1 h0
        subst hL
        have cJ := fun a c w' => Tryz.strings_Join_none a c lfS w'
        go_wp2_with fail
        refine (cJ _ _ _).mono ?_
        rintro e w2 ⟨rfl, rfl⟩
        go_wp2_with fail
        go_ret
        exact ⟨rfl, HB.out⟩
      · obtain ⟨g, rfl, _⟩ := own_addr hO (by omega)
        have hcap := (RowR.of_own hO).cap
        have cJ := Tryz.strings_Join g 0 cu ((L.map plainR).map ba) lfS wr (by
          intro j x hj
          refine (RowR.of_own hO).cellAt j _ ?_
          rw [List.getElem?_map, List.getElem?_map] at hj
          unfold pcells
          rw [List.getElem?_map]
          cases hq : L[j]? with
          | none => rw [hq] at hj; cases hj
          | some r => rw [hq] at hj; simp at hj; subst hj; rfl) (hO.lt g rfl).2 (by simp; omega) (by simp; exact hcap) (by rw [hx]; exact HL.out)
        rw [hx] at cJ
        have hxl : ((L.map plainR).map ba).length = L.length := by simp
        rw [hxl] at cJ
        clear hx hxl
        go_wp2_with fail
        refine cJ.mono ?_
        rintro e w2 ⟨rfl, hb2⟩
        go_wp2_with fail
        go_ret
        exact ⟨rfl, below_grow HB.out hsz hb2⟩
end Go.Proofs.YtgiaohccebolpaaGreatDoor
namespace Go.Proofs.YtgiaohccebolpaaGreatDoor
open Go Go.RowKit
open Go.Lib hiding intOf
set_option linter.unusedVariables false
attribute [local go_sem ↓] ne59_same
theorem keepA14 {a0 a1 a2 a3 a4 a5 a6 a7 a8 a9 a10 a11 a12 a13 : Addr} {w w' w'' : World} {v0 v1 v2 v3 v4 v5 v6 v7 v8 v9 v10 v11 v12 v13 : Value} (h : w'.cell? a0 = some v0 ∧ w'.cell? a1 = some v1 ∧ w'.cell? a2 = some v2 ∧ w'.cell? a3 = some v3 ∧ w'.cell? a4 = some v4 ∧ w'.cell? a5 = some v5 ∧ w'.cell? a6 = some v6 ∧ w'.cell? a7 = some v7 ∧ w'.cell? a8 = some v8 ∧ w'.cell? a9 = some v9 ∧ w'.cell? a10 = some v10 ∧ w'.cell? a11 = some v11 ∧ w'.cell? a12 = some v12 ∧ w'.cell? a13 = some v13 ∧ Below w.heap.size w w') (hb : Below w'.heap.size w' w'') : w''.cell? a0 = some v0 ∧ w''.cell? a1 = some v1 ∧ w''.cell? a2 = some v2 ∧ w''.cell? a3 = some v3 ∧ w''.cell? a4 = some v4 ∧ w''.cell? a5 = some v5 ∧ w''.cell? a6 = some v6 ∧ w''.cell? a7 = some v7 ∧ w''.cell? a8 = some v8 ∧ w''.cell? a9 = some v9 ∧ w''.cell? a10 = some v10 ∧ w''.cell? a11 = some v11 ∧ w''.cell? a12 = some v12 ∧ w''.cell? a13 = some v13 ∧ Below w.heap.size w w'' := by
  obtain ⟨k0, k1, k2, k3, k4, k5, k6, k7, k8, k9, k10, k11, k12, k13, hw⟩ := h
  exact ⟨(hb.cell (cell_lt k0)).trans k0, (hb.cell (cell_lt k1)).trans k1, (hb.cell (cell_lt k2)).trans k2, (hb.cell (cell_lt k3)).trans k3, (hb.cell (cell_lt k4)).trans k4, (hb.cell (cell_lt k5)).trans k5, (hb.cell (cell_lt k6)).trans k6, (hb.cell (cell_lt k7)).trans k7, (hb.cell (cell_lt k8)).trans k8, (hb.cell (cell_lt k9)).trans k9, (hb.cell (cell_lt k10)).trans k10, (hb.cell (cell_lt k11)).trans k11, (hb.cell (cell_lt k12)).trans k12, (hb.cell (cell_lt k13)).trans k13, below_grow hw hw.size hb⟩
theorem lastA14 {a0 a1 a2 a3 a4 a5 a6 a7 a8 a9 a10 a11 a12 a13 : Addr} {w w' : World} {v0 v1 v2 v3 v4 v5 v6 v7 v8 v9 v10 v11 v12 v13 : Value} (h : w'.cell? a0 = some v0 ∧ w'.cell? a1 = some v1 ∧ w'.cell? a2 = some v2 ∧ w'.cell? a3 = some v3 ∧ w'.cell? a4 = some v4 ∧ w'.cell? a5 = some v5 ∧ w'.cell? a6 = some v6 ∧ w'.cell? a7 = some v7 ∧ w'.cell? a8 = some v8 ∧ w'.cell? a9 = some v9 ∧ w'.cell? a10 = some v10 ∧ w'.cell? a11 = some v11 ∧ w'.cell? a12 = some v12 ∧ w'.cell? a13 = some v13 ∧ Below w.heap.size w w') : Below w.heap.size w w' := h.2.2.2.2.2.2.2.2.2.2.2.2.2.2
structure TwinEv (x y : Ev) : Prop where
  inn : x.inn = y.inn
  out : x.out = y.out
  pl : evPlain x.rows = evPlain y.rows
  n1 : x.rows.length ≤ 4
  n2 : y.rows.length ≤ 4
  f1 : ∀ r ∈ x.rows, rowFit r
  f2 : ∀ r ∈ y.rows, rowFit r
set_option maxHeartbeats 8000000 in
set_option maxRecDepth 100000 in
theorem house_any (v1 v2 : Value) (d1 d2 : Dc) (w : World) (h1 : DocV w v1 d1) (h2 : DocV w v2 d2) (hl : d1.evs.length = d2.evs.length) (hn : d1.evs.length ≤ 1048576) (ht : ∀ i, i < d1.evs.length → TwinEv (d1.evs.getD i default) (d2.evs.getD i default)) :
    Calls Tryz.prog 9 #[v1, v2] w fun e w' => e = .returned (.bool true) ∧ Below w.heap.size w w' := by
  obtain ⟨vg, ve, vc, rfl, hG, hVe, hC⟩ := h1
  obtain ⟨vg', ve', vc', rfl, hG', hVe', hC'⟩ := h2
  obtain ⟨ag1, cg1, rfl⟩ := RowR.len hG
  obtain ⟨a1, c1, hv1⟩ := hVe.len
  rw [hl] at hv1 hn ht
  subst hv1
  obtain ⟨ac1, cc1, rfl⟩ := RowR.len hC
  obtain ⟨ag2, cg2, rfl⟩ := RowR.len hG'
  obtain ⟨a2, c2, rfl⟩ := hVe'.len
  obtain ⟨ac2, cc2, rfl⟩ := RowR.len hC'
  have H1 := Lib.hid hVe
  have H2 := Lib.hid hVe'
  have HT := Lib.hid ht
  have HL := Lib.hid hl
  clear hl
  have h0 := heap_alloc2_old w (.cells #[.string (ba d1.title), .string (ba d1.lang), .int .u8 (d1.rate : Int), .bool d1.drop, .int .i64 d1.last, .slice ag1 d1.regs.length cg1, .slice a1 d2.evs.length c1, .slice ac1 d1.cms.length cc1] 27) (.cells #[.string (ba d2.title), .string (ba d2.lang), .int .u8 (d2.rate : Int), .bool d2.drop, .int .i64 d2.last, .slice ag2 d2.regs.length cg2, .slice a2 d2.evs.length c2, .slice ac2 d2.cms.length cc2] 27)
  have h1 := heap_alloc2_new w (.cells #[.string (ba d1.title), .string (ba d1.lang), .int .u8 (d1.rate : Int), .bool d1.drop, .int .i64 d1.last, .slice ag1 d1.regs.length cg1, .slice a1 d2.evs.length c1, .slice ac1 d1.cms.length cc1] 27) (.cells #[.string (ba d2.title), .string (ba d2.lang), .int .u8 (d2.rate : Int), .bool d2.drop, .int .i64 d2.last, .slice ag2 d2.regs.length cg2, .slice a2 d2.evs.length c2, .slice ac2 d2.cms.length cc2] 27)
  have hb := (below1 (.cells #[.string (ba d1.title), .string (ba d1.lang), .int .u8 (d1.rate : Int), .bool d1.drop, .int .i64 d1.last, .slice ag1 d1.regs.length cg1, .slice a1 d2.evs.length c1, .slice ac1 d1.cms.length cc1] 27) (Nat.le_refl w.heap.size)).alloc (by simp) (.cells #[.string (ba d2.title), .string (ba d2.lang), .int .u8 (d2.rate : Int), .bool d2.drop, .int .i64 d2.last, .slice ag2 d2.regs.length cg2, .slice a2 d2.evs.length c2, .slice ac2 d2.cms.length cc2] 27)
  obtain ⟨d0, d1', d2', d3, d4, d5, d6, d7, df, dl⟩ := blk8 h0
  obtain ⟨f0, f1, f2, f3, f4, f5, f6, f7, ff, fl⟩ := blk8 h1
  have HY := Lib.hid h1
  have HB0 := Lib.hid hb
  clear hG hVe hC hG' hVe' hC' ht h0 h1 hb
  go_enter Tryz.func9, Tryz.ntmps9
  go_wp2_with fail
  go_loopw [18] (fun v wx => ∃ i : Nat, v = .int .i64 i ∧ i ≤ d2.evs.length ∧ Hid (wx.heap[w.heap.size + 1]? = some (.cells #[.string (ba d2.title), .string (ba d2.lang), .int .u8 (d2.rate : Int), .bool d2.drop, .int .i64 d2.last, .slice ag2 d2.regs.length cg2, .slice a2 d2.evs.length c2, .slice ac2 d2.cms.length cc2] 27 (0, 0))) ∧ Hid (Below w.heap.size w wx)) (fun v _ => d2.evs.length - (intOf v).toNat)
  case atStart => exact ⟨0, rfl, Nat.zero_le _, HY, HB0⟩
  case round =>
    clear HY HB0 d0 d1' d2' d3 d4 d5 d6 d7 df dl f0 f1 f2 f3 f4 f5 f6 f7 ff fl
    obtain ⟨i, rfl, hil, HY, HB⟩ := hrel
    have hsz := HB.out.size
    by_cases hlt : i < d2.evs.length
    · have hiz : (i : Int) < (d2.evs.length : Int) := by omega
      have g1 := H1.out.below HB.out
      have g2 := H2.out.below HB.out
      obtain ⟨b1, o1, rfl, hl1⟩ := g1.addr (by rw [HL.out]; omega)
      obtain ⟨b2, o2, rfl, hl2⟩ := g2.addr (by omega)
      obtain ⟨u1, r1, x0, x1, x2, x3, x4, x5, x6⟩ := g1.at HL.out.symm i (by rw [HL.out]; exact hlt)
      obtain ⟨u2, r2, y0, y1, y2, y3, y4, y5, y6⟩ := g2.at rfl i (by omega)
      obtain ⟨t1, t2, t3, t4, t5, t6, t7⟩ := HT.out i hlt
      obtain ⟨f0, f1, f2, f3, f4, f5, f6, f7, ff, fl⟩ := blk8 (blk_stay HY.out (below1 (.cells #[.int .i64 (d1.evs.getD i default).id, .int .i64 (d1.evs.getD i default).inn, .int .i64 (d1.evs.getD i default).out, .string (ba (d1.evs.getD i default).reg), .int .u8 ((d1.evs.getD i default).kind : Int), .string (ba (d1.evs.getD i default).spk), u1] 63) (Nat.le_refl _)))
      clear g1 g2
      generalize d1.evs.getD i default = X at *
      generalize d2.evs.getD i default = Y at *
      obtain ⟨z0, z1, z2, z3, z4, z5, z6⟩ := X
      obtain ⟨q0, q1, q2, q3, q4, q5, q6⟩ := Y
      dsimp only at *
      subst t1 t2
      obtain ⟨a3, c3, rfl⟩ := r1.len
      obtain ⟨a4, c4, rfl⟩ := r2.len
      have cP1 := fun w' h => eplain_any z0 z1 z2 (ba z3) (ba z5) (z4 : Int) (.slice a3 z6.length c3) z6 w' h t4 t6
      have cP2 := fun w' h => eplain_any q0 z1 z2 (ba q3) (ba q5) (q4 : Int) (.slice a4 q6.length c4) q6 w' h t5 t7
      rw [← t3] at cP2
      have R1 := Lib.hid r1
      have R2 := Lib.hid r2
      have h0 := heap_alloc2_old wr (.cells #[.int .i64 z0, .int .i64 z1, .int .i64 z2, .string (ba z3), .int .u8 (z4 : Int), .string (ba z5), .slice a3 z6.length c3] 63) (.cells #[.int .i64 q0, .int .i64 z1, .int .i64 z2, .string (ba q3), .int .u8 (q4 : Int), .string (ba q5), .slice a4 q6.length c4] 63)
      have h1 := heap_alloc2_new wr (.cells #[.int .i64 z0, .int .i64 z1, .int .i64 z2, .string (ba z3), .int .u8 (z4 : Int), .string (ba z5), .slice a3 z6.length c3] 63) (.cells #[.int .i64 q0, .int .i64 z1, .int .i64 z2, .string (ba q3), .int .u8 (q4 : Int), .string (ba q5), .slice a4 q6.length c4] 63)
      have hb := (below1 (.cells #[.int .i64 z0, .int .i64 z1, .int .i64 z2, .string (ba z3), .int .u8 (z4 : Int), .string (ba z5), .slice a3 z6.length c3] 63) (Nat.le_refl wr.heap.size)).alloc (by simp) (.cells #[.int .i64 q0, .int .i64 z1, .int .i64 z2, .string (ba q3), .int .u8 (q4 : Int), .string (ba q5), .slice a4 q6.length c4] 63)
      clear r1 r2 t3 t4 t5 t6 t7
      generalize evPlain z6 = PS at *
      go_wp2_with fail
      refine world_as (fun W => W.heap[wr.heap.size]? = some (.cells #[.int .i64 z0, .int .i64 z1, .int .i64 z2, .string (ba z3), .int .u8 (z4 : Int), .string (ba z5), .slice a3 z6.length c3] 63 (0, 0)) ∧ W.heap[wr.heap.size + 1]? = some (.cells #[.int .i64 q0, .int .i64 z1, .int .i64 z2, .string (ba q3), .int .u8 (q4 : Int), .string (ba q5), .slice a4 q6.length c4] 63 (0, 0)) ∧ Below wr.heap.size wr W) ⟨h0, h1, hb⟩ ?_
      rintro W ⟨h0, h1, hb⟩
      clear x0 x1 x2 x3 x4 x5 x6 y0 y1 y2 y3 y4 y5 y6 f0 f1 f2 f3 f4 f5 f6 f7 ff fl
      obtain ⟨x0, x1, x2, x3, x4, x5, x6, xf, xl⟩ := blk7 h0
      obtain ⟨y0, y1, y2, y3, y4, y5, y6, yf, yl⟩ := blk7 h1
      have hbd : Below wr.heap.size wr W.drew := hb.drew
      clear h0 h1 hb xf xl yf yl
      go_region_held3 (fun w' => w'.cell? ⟨wr.heap.size, 0, none⟩ = some (.int .i64 z0) ∧ w'.cell? ⟨wr.heap.size, 1, none⟩ = some (.int .i64 z1) ∧ w'.cell? ⟨wr.heap.size, 2, none⟩ = some (.int .i64 z2) ∧ w'.cell? ⟨wr.heap.size, 3, none⟩ = some (.string (ba z3)) ∧ w'.cell? ⟨wr.heap.size, 4, none⟩ = some (.int .u8 (z4 : Int)) ∧ w'.cell? ⟨wr.heap.size, 5, none⟩ = some (.string (ba z5)) ∧ w'.cell? ⟨wr.heap.size, 6, none⟩ = some (.slice a3 z6.length c3) ∧ w'.cell? ⟨wr.heap.size + 1, 0, none⟩ = some (.int .i64 q0) ∧ w'.cell? ⟨wr.heap.size + 1, 1, none⟩ = some (.int .i64 z1) ∧ w'.cell? ⟨wr.heap.size + 1, 2, none⟩ = some (.int .i64 z2) ∧ w'.cell? ⟨wr.heap.size + 1, 3, none⟩ = some (.string (ba q3)) ∧ w'.cell? ⟨wr.heap.size + 1, 4, none⟩ = some (.int .u8 (q4 : Int)) ∧ w'.cell? ⟨wr.heap.size + 1, 5, none⟩ = some (.string (ba q5)) ∧ w'.cell? ⟨wr.heap.size + 1, 6, none⟩ = some (.slice a4 q6.length c4) ∧ Below wr.heap.size wr w')
        (first | exact ⟨x0, x1, x2, x3, x4, x5, x6, y0, y1, y2, y3, y4, y5, y6, hbd⟩ | assumption | exact keepA14 (by assumption) hb5)
        (first | ((go_at_call 24; first | ((with_reducible refine (cP1 _ (R1.out.below (lastA14 (by assumption)))).mono ?_); rintro e w5 ⟨rfl, hb5⟩) | ((with_reducible refine (cP2 _ (R2.out.below (lastA14 (by assumption)))).mono ?_); rintro e w5 ⟨rfl, hb5⟩))))
      rename_i hH
      have HB5 := Lib.hid (below_grow HB.out hsz (lastA14 hH))
      have HY5 := Lib.hid (blk_stay HY.out (lastA14 hH))
      clear hH hb5
      go_wp2_with fail
      go_roundw
      case rel => exact ⟨i + 1, by go_num, by omega, HY5, HB5⟩
      case measure => simp [intOf]; omega
    · obtain rfl : i = d2.evs.length := by omega
      have hiz : ¬ (d2.evs.length : Int) < (d2.evs.length : Int) := by omega
      go_wp2_with fail
      go_ret
      exact ⟨rfl, HB.out⟩
end Go.Proofs.YtgiaohccebolpaaGreatDoor
namespace Go.Proofs.YtgiaohccebolpaaGreatDoor
open Go
set_option linter.unusedVariables false
/-! ### a drawn region: loads that come ahead of all stores, and operations of temporaries alone that come whenever -/
section
variable {P : Program} {ops : Array Oper} {Q : Exit → Act → World → Prop} {md : Region.Mode} {S : World → Prop} {m : Nat}
/-- Whatever order comes: an operation whose number is below m keeps S. -/
def wpAnyS (P : Program) (md : Region.Mode) (ops : Array Oper) (Q : Exit → Act → World → Prop) (S : World → Prop) (m : Nat) : Nat → Array Bool → Act → World → Prop
  | 0, listed, a, w => Region.ready md ops listed = [] ∧ Q .normal a w
  | fuel + 1, listed, a, w => (Region.ready md ops listed = [] → Q .normal a w) ∧
    ∀ i ∈ Region.ready md ops listed, wpOp P ops Q i (fun a' w' => (S w → i < m → S w') ∧ wpAnyS P md ops Q S m fuel (listed.setIfInBounds i true) a' w') a w
theorem wpAny_of_S : ∀ (fuel : Nat) (listed : Array Bool) (a : Act) (w : World), wpAnyS P md ops Q S m fuel listed a w → wpAny P md ops Q fuel listed a w
  | 0, _, _, _, h => h
  | fuel + 1, _, _, _, h => ⟨h.1, fun i hi => wpOp_mono (fun a' w' h' => wpAny_of_S fuel _ a' w' h'.2) (h.2 i hi)⟩
/-- Every operation from m on waits for number i. -/
def tailWaits (md : Region.Mode) (ops : Array Oper) (m i : Nat) : Bool :=
  (List.range ops.size).all fun j => decide (j < m) || ((ops[j]?).map fun o => o.after.any fun e => Region.binds md e && e.on == i).getD false
theorem tailWaits_spec {i j : Nat} {listed : Array Bool} (h : tailWaits md ops m i = true) (hi : listed.getD i true = false) (hj : j ∈ Region.ready md ops listed) : j < m := by
  obtain ⟨_, o, ho, hall⟩ := mem_ready.1 hj
  have h1 := List.all_eq_true.1 h j (List.mem_range.2 (Array.getElem?_eq_some_iff.1 ho).1)
  simp only [Bool.or_eq_true, decide_eq_true_eq, ho, Option.map_some, Option.getD_some] at h1
  rcases h1 with h1 | h1
  · exact h1
  · exfalso
    obtain ⟨e, he, hb⟩ := Array.any_eq_true'.1 h1
    simp only [Bool.and_eq_true, beq_iff_eq] at hb
    have h2 := hall e he hb.1
    rw [hb.2] at h2
    rcases Nat.lt_or_ge i listed.size with h' | h'
    · simp [h'] at hi h2; rw [hi] at h2; cases h2
    · simp [Array.getElem?_eq_none h'] at h2
theorem wpAnyS_first {i : Nat} {oi : Oper} {v : Value} (hi : ops[i]? = some oi) (hsel : ∀ (j : Nat) (o : Oper) cs b, ops[j]? = some o → o.op ≠ .select cs b)
    (hQ : ∀ c a w, Q (.panic c) (a.put oi.dst v) w → Q (.panic c) a w) (hT : tailWaits md ops m i = true) :
    ∀ (fuel : Nat) (listed : Array Bool) (a : Act) (w : World),
      (∀ j oj, ops[j]? = some oj → j ≠ i → listed.getD j true = false → (∀ e ∈ oj.after, Region.binds md e = true → e.on ≠ i) → oi.apart ops oj = true) →
      i ∈ Region.ready md ops listed → YieldsIf P ops S oi v a → S w →
      wpAnyS P md ops Q S m fuel (listed.setIfInBounds i true) (a.put oi.dst v) w → wpAnyS P md ops Q S m (fuel + 1) listed a w := by
  intro fuel
  induction fuel with
  | zero =>
    intro listed a w _ hr hy hS H
    refine ⟨fun h => (by rw [h] at hr; cases hr), fun j hj => ?_⟩
    rcases Decidable.em (j = i) with e | e
    · subst e; exact hy.wpOp hi hS ⟨fun h _ => h, H⟩
    · have h0 := ready_mono hj e
      rw [H.1] at h0
      cases h0
  | succ fuel ih =>
    intro listed a w hfree hr hy hS H
    refine ⟨fun h => (by rw [h] at hr; cases hr), fun j hj => ?_⟩
    rcases Decidable.em (j = i) with e | e
    · subst e; exact hy.wpOp hi hS ⟨fun h _ => h, H⟩
    · obtain ⟨hjun, oj, hoj, hall⟩ := mem_ready.1 hj
      have hiun := (mem_ready.1 hr).1
      have hjm : j < m := tailWaits_spec hT hiun hj
      have hnot : ∀ e ∈ oj.after, Region.binds md e = true → e.on ≠ i := fun e he hb heq => by
        have h1 := hall e he hb
        rw [heq] at h1
        rcases Nat.lt_or_ge i listed.size with h' | h'
        · simp [h'] at hiun h1; rw [hiun] at h1; cases h1
        · simp [Array.getElem?_eq_none h'] at h1
      have h2 := wpOp_putIf hoj (hfree j oj hoj e hjun hnot) (fun cs b => hsel i oi cs b hi) (fun cs b => hsel j oj cs b hoj) hQ hy (H.2 j (ready_mono hj e))
      refine wpOp_mono (fun a' w' h3 => ⟨h3.2.1, ih (listed.setIfInBounds j true) a' w' (fun k ok hk hki hun hno => hfree k ok hk hki ?_ hno) (ready_mono hr (Ne.symm e)) h3.1 (h3.2.1 hS hjm) ?_⟩) h2
      · rcases Decidable.em (j = k) with e' | e'
        · subst e'; exact hjun
        · rw [getD_set_ne true e'] at hun; exact hun
      · rw [Array.setIfInBounds_comm _ _ e]
        exact h3.2.2
/-- The same of an operation that yields its value in whatever world. -/
theorem wpAnyS_pureFirst {i : Nat} {oi : Oper} {v : Value} (hi : ops[i]? = some oi) (hsel : ∀ (j : Nat) (o : Oper) cs b, ops[j]? = some o → o.op ≠ .select cs b)
    (hQ : ∀ c a w, Q (.panic c) (a.put oi.dst v) w → Q (.panic c) a w) :
    ∀ (fuel : Nat) (listed : Array Bool) (a : Act) (w : World),
      (∀ j oj, ops[j]? = some oj → j ≠ i → listed.getD j true = false → (∀ e ∈ oj.after, Region.binds md e = true → e.on ≠ i) → oi.apart ops oj = true) →
      i ∈ Region.ready md ops listed → YieldsIf P ops (fun _ => True) oi v a →
      wpAnyS P md ops Q S m fuel (listed.setIfInBounds i true) (a.put oi.dst v) w → wpAnyS P md ops Q S m (fuel + 1) listed a w := by
  intro fuel
  induction fuel with
  | zero =>
    intro listed a w _ hr hy H
    refine ⟨fun h => (by rw [h] at hr; cases hr), fun j hj => ?_⟩
    rcases Decidable.em (j = i) with e | e
    · subst e; exact hy.wpOp hi trivial ⟨fun h _ => h, H⟩
    · have h0 := ready_mono hj e
      rw [H.1] at h0
      cases h0
  | succ fuel ih =>
    intro listed a w hfree hr hy H
    refine ⟨fun h => (by rw [h] at hr; cases hr), fun j hj => ?_⟩
    rcases Decidable.em (j = i) with e | e
    · subst e; exact hy.wpOp hi trivial ⟨fun h _ => h, H⟩
    · obtain ⟨hjun, oj, hoj, hall⟩ := mem_ready.1 hj
      have hiun := (mem_ready.1 hr).1
      have hnot : ∀ e ∈ oj.after, Region.binds md e = true → e.on ≠ i := fun e he hb heq => by
        have h1 := hall e he hb
        rw [heq] at h1
        rcases Nat.lt_or_ge i listed.size with h' | h'
        · simp [h'] at hiun h1; rw [hiun] at h1; cases h1
        · simp [Array.getElem?_eq_none h'] at h1
      have h2 := wpOp_putIf hoj (hfree j oj hoj e hjun hnot) (fun cs b => hsel i oi cs b hi) (fun cs b => hsel j oj cs b hoj) hQ hy (H.2 j (ready_mono hj e))
      refine wpOp_mono (fun a' w' h3 => ⟨h3.2.1, ih (listed.setIfInBounds j true) a' w' (fun k ok hk hki hun hno => hfree k ok hk hki ?_ hno) (ready_mono hr (Ne.symm e)) h3.1 ?_⟩) h2
      · rcases Decidable.em (j = k) with e' | e'
        · subst e'; exact hjun
        · rw [getD_set_ne true e'] at hun; exact hun
      · rw [Array.setIfInBounds_comm _ _ e]
        exact h3.2.2
/-- The operation number i, found by unification. -/
theorem at_of_drop {i : Nat} {oi : Oper} {rest : List Oper} (h : ops.toList.drop i = oi :: rest) : ops[i]? = some oi := by
  have e := congrArg List.head? h
  rw [List.head?_drop] at e
  simpa using e
theorem wpAnyS_take {i : Nat} {oi : Oper} {rest : List Oper} {v : Value} {fuel : Nat} {listed : Array Bool} {a : Act} {w : World} (hd : ops.toList.drop i = oi :: rest)
    (hs : Region.noSelect ops = true) (hf : Region.free md ops listed i = true) (hr : (Region.ready md ops listed).contains i = true) (hT : tailWaits md ops m i = true)
    (hQ : ∀ c a w, Q (.panic c) (a.put oi.dst v) w → Q (.panic c) a w) (hy : YieldsIf P ops S oi v a) (hS : S w)
    (h : wpAnyS P md ops Q S m fuel (listed.setIfInBounds i true) (a.put oi.dst v) w) : wpAnyS P md ops Q S m (fuel + 1) listed a w :=
  wpAnyS_first (at_of_drop hd) (Region.noSelect_spec hs) hQ hT fuel listed a w (Region.free_spec (at_of_drop hd) hf) (by simpa using hr) hy hS h
theorem wpAnyS_pure {i : Nat} {oi : Oper} {rest : List Oper} {v : Value} {fuel : Nat} {listed : Array Bool} {a : Act} {w : World} (hd : ops.toList.drop i = oi :: rest)
    (hs : Region.noSelect ops = true) (hf : Region.free md ops listed i = true) (hr : (Region.ready md ops listed).contains i = true)
    (hQ : ∀ c a w, Q (.panic c) (a.put oi.dst v) w → Q (.panic c) a w) (hy : YieldsIf P ops (fun _ => True) oi v a)
    (h : wpAnyS P md ops Q S m fuel (listed.setIfInBounds i true) (a.put oi.dst v) w) : wpAnyS P md ops Q S m (fuel + 1) listed a w :=
  wpAnyS_pureFirst (at_of_drop hd) (Region.noSelect_spec hs) hQ fuel listed a w (Region.free_spec (at_of_drop hd) hf) (by simpa using hr) hy h
theorem wpAnyS_last {i : Nat} {o : Oper} {rest : List Oper} {fuel : Nat} {listed : Array Bool} {a : Act} {w : World} (hr : Region.ready md ops listed = [i]) (hd : ops.toList.drop i = o :: rest) (hm : m ≤ i)
    (h : ∀ K' : Act → World → Prop, Shut (∀ a w, wpAnyS P md ops Q S m fuel (listed.setIfInBounds i true) a w → K' a w) → if Region.wanted o (yielded ops a.tmps) = true then Oper.wp P o a w K' Q else K' (a.put o.dst undef) w) :
    wpAnyS P md ops Q S m (fuel + 1) listed a w := by
  have ho := at_of_drop hd
  refine ⟨fun h0 => (by rw [h0] at hr; cases hr), fun j hj => ?_⟩
  rw [hr, List.mem_singleton] at hj
  subst hj
  exact wpOp_step ho (fun K' hK => h K' (fun a w hW => hK a w ⟨fun _ h => absurd h (by omega), hW⟩))
theorem wpAnyS_done {listed : Array Bool} {a : Act} {w : World} (hr : Region.ready md ops listed = []) (h : Q .normal a w) : ∀ fuel, wpAnyS P md ops Q S m fuel listed a w
  | 0 => ⟨hr, h⟩
  | _ + 1 => ⟨fun _ => h, by rw [hr]; simp⟩
theorem wp_region_S (m : Nat) {id : Nat} {a : Act} {w : World} (hm : P.follows .mixedOrders = true) (hS : S w.drew)
    (h : S w.drew → wpAnyS P .any ops Q S m ops.size (Array.replicate ops.size false) a w.drew) : (Code.region id ops true).wp P Q a w :=
  wp_region_any hm (wpAny_of_S _ _ _ _ (h hS))
end
end Go.Proofs.YtgiaohccebolpaaGreatDoor
