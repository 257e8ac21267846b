import Derived.Test.YtgiaohccebolpaaGreatDoorQ11
namespace Go.Proofs.YtgiaohccebolpaaGreatDoor
open Go Go.RowKit
open Go.Maps
open Go.Lib hiding intOf
set_option linter.unusedVariables false
/-! ### a document -/
def idsOf (evs : List Ev) : List Int := evs.map (·.id)
def chkS (last : Int) (regs : List Rg) (evs : List Ev) (i : Nat) : Int :=
  if evE regs (evs.getD i default) = 0 then
    (if last < (evs.getD i default).id then 2
    else if 0 < i ∧ ltE (evs.getD (i - 1) default) (evs.getD i default) = false then 8
    else if (evs.getD i default).id ∈ (idsOf evs).take i then 7 else 0)
  else evE regs (evs.getD i default)
def chkE2 (last : Int) (regs : List Rg) (evs : List Ev) (cms : List Cm) : Int :=
  if 400 < evs.length then 9 else if fnz (chkS last regs evs) 0 evs.length = 0 then comE last (idsOf evs) evs cms else fnz (chkS last regs evs) 0 evs.length
def chkE (d : Dc) : Int :=
  if headE d.title d.lang d.rate d.drop d.last = 0 then (if clE d.regs = 0 then chkE2 d.last d.regs d.evs d.cms else clE d.regs) else headE d.title d.lang d.rate d.drop d.last
structure Dc.fit (d : Dc) : Prop where
  title : d.title.length ≤ 1048576
  lang : d.lang.length ≤ 1048576
  rate : d.rate < 256
  regs : ∀ r ∈ d.regs, r.ok
  regn : d.regs.length ≤ 1048576
  evs : ∀ e ∈ d.evs, evFit e
  evn : d.evs.length ≤ 1048576
  cms : ∀ c ∈ d.cms, cmFit c
  cmn : d.cms.length ≤ 1048576
theorem chkS_def (last : Int) (regs : List Rg) (evs : List Ev) (i : Nat) : chkS last regs evs i = if evE regs (evs.getD i default) = 0 then
    (if last < (evs.getD i default).id then 2
    else if 0 < i ∧ ltE (evs.getD (i - 1) default) (evs.getD i default) = false then 8
    else if (evs.getD i default).id ∈ (idsOf evs).take i then 7 else 0)
  else evE regs (evs.getD i default) := rfl
theorem evE_zero {R : List Rg} {e : Ev} (h : evE R e = 0) : (1 ≤ e.id ∧ e.id ≤ 1099511627776) ∧ okSpan e.inn e.out = true ∧ ∃ r, fnd R (ba e.reg) = some r ∧ evE2 r e.kind e.spk e.rows = 0 := by
  unfold evE at h
  split at h
  · omega
  · split at h
    · omega
    · split at h
      · omega
      · rename_i h1 h2 h3
        refine ⟨by omega, by simpa using h3, ?_⟩
        cases hf : fnd R (ba e.reg) with
        | none => rw [hf] at h; simp [evE3] at h
        | some r => rw [hf] at h; exact ⟨r, rfl, h⟩
theorem evE2_zero {r : Rg} {k : Nat} {spk : List UInt8} {rows : List Rw} (h : evE2 r k spk rows = 0) : 1 ≤ rows.length ∧ rows.length ≤ 4 ∧ fnz (rowsE rows) 0 rows.length = 0 := by
  unfold evE2 at h
  split at h
  · omega
  · split at h
    · omega
    · split at h
      · omega
      · split at h
        · refine ⟨by omega, by omega, by assumption⟩
        · exact absurd h (by assumption)
theorem lastE_zero {l : Int} (h : lastE l = 0) : 0 ≤ l ∧ l ≤ 1099511627776 := by
  unfold lastE at h
  split at h
  · omega
  · split at h <;> omega
theorem headE_zero {title lang : List UInt8} {rate : Nat} {drop : Bool} {last : Int} (h : headE title lang rate drop last = 0) : 0 ≤ last ∧ last ≤ 1099511627776 ∧ rateE rate drop = 0 := by
  unfold headE at h
  split at h
  · omega
  · split at h
    · omega
    · split at h
      · omega
      · split at h
        · rename_i h4
          have := lastE_zero h
          exact ⟨this.1, this.2, h4⟩
        · exact absurd h (by assumption)
theorem ids_snoc (evs : List Ev) (i : Nat) (h : i < evs.length) : (idsOf evs).take i ++ [(evs.getD i default).id] = (idsOf evs).take (i + 1) := by
  unfold idsOf
  rw [← List.map_take, ← List.map_take, take_succ evs i h, List.map_append]; rfl
theorem ids_len (evs : List Ev) (i : Nat) (h : i ≤ evs.length) : ((idsOf evs).take i).length = i := by
  unfold idsOf; simp; omega
theorem ltE_eq (x y : Ev) : ltE x y = lessI x.inn x.id y.inn y.id := rfl
set_option maxHeartbeats 16000000 in
set_option maxRecDepth 100000 in
theorem check_any (v : Value) (d : Dc) (w : World) (hV : DocV w v d) (hf : d.fit) (hE : Env w) :
    Calls Tryz.prog 22 #[v] w fun e w' => e = .returned (.int .i64 (chkE d)) ∧ Below w.heap.size w w' := by
  obtain ⟨vg, ve, vc, rfl, hG, hVe, hC⟩ := hV
  obtain ⟨ag, cg, rfl⟩ := RowR.len hG
  obtain ⟨a, c, rfl⟩ := hVe.len
  obtain ⟨ac, cc, rfl⟩ := RowR.len hC
  obtain ⟨ft, fl, fr, fg, fgn, fe, fen, fc, fcn⟩ := hf
  have cH := fun w' hE => header_any d.title d.lang d.rate d.drop d.last ag a ac d.regs.length d.evs.length d.cms.length cg c cc ft fl fr w' hE
  have cL := fun w' h => checkList_any (.slice ag d.regs.length cg) d.regs w' h fg fgn
  have hq : chkE d = if headE d.title d.lang d.rate d.drop d.last = 0 then (if clE d.regs = 0 then chkE2 d.last d.regs d.evs d.cms else clE d.regs) else headE d.title d.lang d.rate d.drop d.last := rfl
  have hh := fun h => @headE_zero d.title d.lang d.rate d.drop d.last h
  have cM := fun b ids w' hM hV hC hids hff hl hE => comments_any (ba d.title) (ba d.lang) (d.rate : Int) d.drop d.last (.slice ag d.regs.length cg) (.slice a d.evs.length c) (.slice ac d.cms.length cc) ag d.regs.length cg rfl b ids d.evs d.cms w' hM hV hC hids fen hff fc fcn hl hE
  generalize headE d.title d.lang d.rate d.drop d.last = HE0 at *
  generalize clE d.regs = CL at *
  generalize chkE d = Z at *
  generalize ba d.title = title at *
  generalize ba d.lang = lang at *
  have HQ := Lib.hid hq
  have HG := Lib.hid hG
  have HV := Lib.hid hVe
  have HC := Lib.hid hC
  have HFE := Lib.hid fe
  have HFG := Lib.hid fg
  have HH := Lib.hid hh
  clear hq hG hVe hC fe fg hh fc
  have hbox := heap_alloc_new w (.cells #[.string title, .string lang, .int .u8 (d.rate : Int), .bool d.drop, .int .i64 d.last, .slice ag d.regs.length cg, .slice a d.evs.length c, .slice ac d.cms.length cc] 27)
  have HBX := Lib.hid hbox
  have hb0 := below1 (B := w.heap.size) (w := w) (.cells #[.string title, .string lang, .int .u8 (d.rate : Int), .bool d.drop, .int .i64 d.last, .slice ag d.regs.length cg, .slice a d.evs.length c, .slice ac d.cms.length cc] 27) (Nat.le_refl _)
  have HB0 := Lib.hid hb0
  clear hbox hb0
  go_enter Tryz.func22, Tryz.ntmps22
  go_wp2_with fail
  refine (cH _ (hE.below HB0.out)).mono ?_
  rintro e w1 ⟨rfl, hb1⟩
  have HD1 := Lib.hid (blk_stay HBX.out hb1)
  have HB1 := Lib.hid (below_grow HB0.out HB0.out.size hb1)
  clear hb1 HBX HB0 cH
  obtain ⟨c0, c1, c2, c3, c4, c5, c6, c7, cf, hlt0⟩ := blk8 HD1.out
  by_cases hHE : HE0 = 0
  case neg =>
    have HZ : Hid (Z = HE0) := Lib.hid (by rw [HQ.out, if_neg hHE])
    have hz : (HE0 == 0) = false := by simpa using hHE
    clear HQ HH hHE
    go_wp2_with fail
    go_ret
    exact ⟨ret_int HZ.out.symm, HB1.out⟩
  have HQ1 := Lib.hid (HQ.out.trans (by rw [if_pos hHE]))
  obtain ⟨hl0, hl1, _⟩ := HH.out hHE
  subst hHE
  clear HQ HH
  go_wp2_with fail
  refine (cL _ (RowR.below HG.out HB1.out)).mono ?_
  rintro e w2 ⟨rfl, hb2⟩
  have HD2 := Lib.hid (blk_stay HD1.out hb2)
  have HB2 := Lib.hid (below_grow HB1.out HB1.out.size hb2)
  clear hb2 HD1 HB1 cL c0 c1 c2 c3 c4 c5 c6 c7 cf hlt0
  obtain ⟨c0, c1, c2, c3, c4, c5, c6, c7, cf, hlt0⟩ := blk8 HD2.out
  by_cases hCL : CL = 0
  case neg =>
    have HZ : Hid (Z = CL) := Lib.hid (by rw [HQ1.out, if_neg hCL])
    have hz : (CL == 0) = false := by simpa using hCL
    clear HQ1 hCL
    go_wp2_with fail
    go_ret
    exact ⟨ret_int HZ.out.symm, HB2.out⟩
  have HQ2 := Lib.hid (HQ1.out.trans (by rw [if_pos hCL]))
  subst hCL
  clear HQ1
  by_cases h4 : 400 < d.evs.length
  · have HZ : Hid (Z = 9) := Lib.hid (by rw [HQ2.out]; unfold chkE2; rw [if_pos h4])
    have h4z : (400 : Int) < (d.evs.length : Int) := by omega
    clear HQ2 h4
    go_wp2_with fail
    go_ret
    exact ⟨ret_int HZ.out.symm, HB2.out⟩
  have h4z : ¬ (400 : Int) < (d.evs.length : Int) := by omega
  have HQ3 : Hid (Z = if fnz (chkS d.last d.regs d.evs) 0 (d.evs.length - 0) = 0 then comE d.last (idsOf d.evs) d.evs d.cms else fnz (chkS d.last d.regs d.evs) 0 (d.evs.length - 0)) := Lib.hid (by rw [HQ2.out]; unfold chkE2; rw [if_neg h4]; rfl)
  clear HQ2 h4
  have hmm := @run_makeMap Tryz.prog
  go_upto_region 10 with fail
  have hB2s := HB2.out.size
  refine world_as (fun W => Below w.heap.size w W ∧ W.heap[w.heap.size]? = some (.cells #[.string title, .string lang, .int .u8 (d.rate : Int), .bool d.drop, .int .i64 d.last, .slice ag d.regs.length cg, .slice a d.evs.length c, .slice ac d.cms.length cc] 27 (0, 0)) ∧ MapI W w2.heap.size []) ⟨HB2.out.alloc hB2s _, blk_stay HD2.out (below1 _ (Nat.le_refl _)), MapI.made w2⟩ ?_
  rintro W ⟨hbW, hDW, hMW⟩
  clear c0 c1 c2 c3 c4 c5 c6 c7 cf hmm
  obtain ⟨c0, c1, c2, c3, c4, c5, c6, c7, cf, _⟩ := blk8 hDW
  have HBW := Lib.hid hbW
  have HDW := Lib.hid hDW
  have HMW := Lib.hid hMW
  clear hbW hDW hMW HD2 HB2
  generalize w2.heap.size = bm at *
  obtain ⟨V, hVv⟩ : ∃ V, fnz (chkS d.last d.regs d.evs) 0 (d.evs.length - 0) = V := ⟨_, rfl⟩
  have HVv := Lib.hid hVv
  rw [hVv] at HQ3
  clear hVv
  go_wp2_with fail
  clear c0 c1 c2 c3 c4 c5 c6 c7 cf
  go_loopw [30] (fun v wx => ∃ i : Nat, v = .int .i64 i ∧ i ≤ d.evs.length ∧ Hid (fnz (chkS d.last d.regs d.evs) i (d.evs.length - i) = V) ∧ Hid (MapI wx bm ((idsOf d.evs).take i)) ∧ Hid (Below w.heap.size w wx) ∧ Hid (wx.heap[w.heap.size]? = some (.cells #[.string title, .string lang, .int .u8 (d.rate : Int), .bool d.drop, .int .i64 d.last, .slice ag d.regs.length cg, .slice a d.evs.length c, .slice ac d.cms.length cc] 27 (0, 0)))) (fun v _ => d.evs.length - (intOf v).toNat)
  case atStart => exact ⟨0, rfl, Nat.zero_le _, HVv, Lib.hid HMW.out, HBW, HDW⟩
  case round =>
    have HV0 := HVv
    clear HVv HBW HDW HMW
    obtain ⟨i, rfl, hi, HX, HM, HB, HD⟩ := hrel
    have hsz := HB.out.size
    by_cases hlt : i < d.evs.length
    · have hiz : (i : Int) < (d.evs.length : Int) := by omega
      have hVr := HV.out.below HB.out
      obtain ⟨g, off, rfl, hg⟩ := hVr.addr (by omega)
      obtain ⟨vr, hvr, k0, k1, k2, k3, k4, k5, k6⟩ := hVr.at rfl i hlt
      have hpv : 0 < i → ∃ (ap : Option Addr) (np cp : Nat), wr.cell? ⟨g, off + (i - 1) * 7, none⟩ = some (.int .i64 (d.evs.getD (i - 1) default).id) ∧ wr.cell? ⟨g, off + (i - 1) * 7 + 1, none⟩ = some (.int .i64 (d.evs.getD (i - 1) default).inn) ∧ wr.cell? ⟨g, off + (i - 1) * 7 + 2, none⟩ = some (.int .i64 (d.evs.getD (i - 1) default).out) ∧
          wr.cell? ⟨g, off + (i - 1) * 7 + 3, none⟩ = some (.string (ba (d.evs.getD (i - 1) default).reg)) ∧ wr.cell? ⟨g, off + (i - 1) * 7 + 4, none⟩ = some (.int .u8 ((d.evs.getD (i - 1) default).kind : Int)) ∧ wr.cell? ⟨g, off + (i - 1) * 7 + 5, none⟩ = some (.string (ba (d.evs.getD (i - 1) default).spk)) ∧ wr.cell? ⟨g, off + (i - 1) * 7 + 6, none⟩ = some (.slice ap np cp) := fun h => by
        obtain ⟨vp, hvp, p⟩ := hVr.at rfl (i - 1) (by omega)
        obtain ⟨ap, cp, rfl⟩ := hvp.len
        exact ⟨ap, _, cp, p⟩
      have hfit := HFE.out (d.evs.getD i default) (by rw [getD_of hlt]; exact List.getElem_mem hlt)
      have cE := fun w' hR hG hE => echeck_any vr (.slice ag d.regs.length cg) (d.evs.getD i default) d.regs w' hR hG hfit HFG.out fgn hE
      have HS := Lib.hid (chkS_def d.last d.regs d.evs i)
      have HST := Lib.hid (fun z => @fnz_stop (chkS d.last d.regs d.evs) z V i d.evs.length HX.out hlt)
      have HGO := Lib.hid (@fnz_go (chkS d.last d.regs d.evs) V i d.evs.length HX.out hlt)
      have HSN := Lib.hid (ids_snoc d.evs i hlt)
      have HLN := Lib.hid (ids_len d.evs i hi)
      have hz := fun h => (@evE_zero d.regs (d.evs.getD i default) h).1
      rw [ltE_eq] at HS
      have HVR := Lib.hid hvr
      obtain ⟨av, cv, rfl⟩ := hvr.len
      generalize evE d.regs (d.evs.getD i default) = A at *
      generalize (d.evs.getD i default).rows = rows at *
      generalize rows.length = nv at *
      generalize (d.evs.getD i default).id = y0 at *
      generalize (d.evs.getD i default).inn = y1 at *
      generalize (d.evs.getD i default).out = y2 at *
      generalize ba (d.evs.getD i default).reg = y3 at *
      generalize (d.evs.getD i default).kind = y4 at *
      generalize ba (d.evs.getD i default).spk = y5 at *
      generalize (d.evs.getD (i - 1) default).id = p0 at *
      generalize (d.evs.getD (i - 1) default).inn = p1 at *
      generalize (d.evs.getD (i - 1) default).out = p2 at *
      generalize ba (d.evs.getD (i - 1) default).reg = p3 at *
      generalize (d.evs.getD (i - 1) default).kind = p4 at *
      generalize ba (d.evs.getD (i - 1) default).spk = p5 at *
      generalize (idsOf d.evs).take i = ids at *
      have HP := Lib.hid hpv
      have HZ0 := Lib.hid hz
      clear hVr hvr hpv hfit hz HX
      go_upto_region 13 with fail
      refine world_as (fun W => Below w.heap.size w W ∧ Below wr.heap.size wr W ∧ W.heap[w.heap.size]? = some (.cells #[.string title, .string lang, .int .u8 (d.rate : Int), .bool d.drop, .int .i64 d.last, .slice ag d.regs.length cg, .slice (some ⟨g, off, none⟩) d.evs.length c, .slice ac d.cms.length cc] 27 (0, 0)) ∧ W.heap[wr.heap.size]? = some (.cells #[.int .i64 y0, .int .i64 y1, .int .i64 y2, .string y3, .int .u8 (y4 : Int), .string y5, .slice av nv cv] 63 (0, 0))) ⟨HB.out.alloc hsz _, below1 _ (Nat.le_refl _), blk_stay HD.out (below1 _ (Nat.le_refl _)), heap_alloc_new wr _⟩ ?_
      rintro W ⟨hbW, hbr, hB1, hB2⟩
      clear k0 k1 k2 k3 k4 k5 k6
      obtain ⟨c0, c1, c2, c3, c4, c5, c6, c7, cf, _⟩ := blk8 hB1
      obtain ⟨d0, d1, d2, d3, d4, d5, d6, df, _⟩ := blk7 hB2
      have HN : Hid (∀ W2 : World, Below W.heap.size W W2 → Below w.heap.size w W2 ∧ W2.heap[w.heap.size]? = some (.cells #[.string title, .string lang, .int .u8 (d.rate : Int), .bool d.drop, .int .i64 d.last, .slice ag d.regs.length cg, .slice (some ⟨g, off, none⟩) d.evs.length c, .slice ac d.cms.length cc] 27 (0, 0)) ∧ W2.heap[wr.heap.size]? = some (.cells #[.int .i64 y0, .int .i64 y1, .int .i64 y2, .string y3, .int .u8 (y4 : Int), .string y5, .slice av nv cv] 63 (0, 0)) ∧ Below wr.heap.size wr W2) := Lib.hid (fun W2 h => ⟨below_grow hbW hbW.size h, blk_stay hB1 h, blk_stay hB2 h, below_grow hbr hbr.size h⟩)
      have cE2 := cE W (HVR.out.below hbr) (RowR.below HG.out hbW) (hE.below hbW)
      clear hbW hbr hB1 hB2 cE HB HD hsz
      go_wp2_with fail
      refine cE2.mono ?_
      rintro e w3 ⟨rfl, hb3⟩
      obtain ⟨hbw3, hB1, hB2, hbr3⟩ := HN.out _ hb3
      clear c0 c1 c2 c3 c4 c5 c6 c7 cf d0 d1 d2 d3 d4 d5 d6 df cE2
      obtain ⟨c0, c1, c2, c3, c4, c5, c6, c7, cf, _⟩ := blk8 hB1
      obtain ⟨d0, d1, d2, d3, d4, d5, d6, df, _⟩ := blk7 hB2
      have HBW3 := Lib.hid hbw3
      clear hB1 hB2 hbw3
      by_cases hA : A = 0
      case neg =>
        have HZ : Hid (A = V) := Lib.hid (HST.out A (by rw [HS.out, if_neg hA]) hA)
        have HZZ : Hid (Z = A) := Lib.hid (by rw [HQ3.out, if_neg (by rw [← HZ.out]; exact hA), HZ.out])
        have hAz : (A == 0) = false := by simpa using hA
        clear hA
        go_wp2_with fail
        go_ret
        exact ⟨ret_int HZZ.out.symm, HBW3.out⟩
      have HS1 := Lib.hid (HS.out.trans (by rw [if_pos hA]))
      obtain ⟨hy1, hy2⟩ := HZ0.out hA
      have hwf : (Lit.int .i64 y0).wf = true := WalkArith.wf_i64 (by omega)
      have hlook := (HM.out.below hbr3).look y0 hwf
      subst hA
      clear HS HZ0
      by_cases h2 : d.last < y0
      · have HZ : Hid (2 = V) := Lib.hid (HST.out 2 (by rw [HS1.out, if_pos h2]) (by omega))
        have HZZ : Hid (Z = 2) := Lib.hid (by rw [HQ3.out, ← HZ.out]; rfl)
        go_wp2_with fail
        go_ret
        exact ⟨ret_int HZZ.out.symm, HBW3.out⟩
      have HS2 := Lib.hid (HS1.out.trans (by rw [if_neg h2]))
      have e2 : decide (d.last < y0) = false := by simpa using h2
      clear h2 HS1
      by_cases hi0 : i = 0
      · have HS3 := Lib.hid (HS2.out.trans (by rw [if_neg (by omega)]))
        have hdz : decide (0 < i) = false := by simp; omega
        clear hi0 HS2
        go_wp2_with fail
        go_quiet (fail)
        go_upto_region 21 with fail
        refine world_as (fun W6 => Below w3.heap.size w3 W6) (below_dn (Below.refl _ _) _) ?_
        rintro W6 hb6
        obtain ⟨_, hB61, hB62, _⟩ := HN.out _ (below_trans hb3 hb6)
        clear c0 c1 c2 c3 c4 c5 c6 c7 cf d0 d1 d2 d3 d4 d5 d6 df hlook
        obtain ⟨d0, d1, d2, d3, d4, d5, d6, df, _⟩ := blk7 hB62
        have hM6 := (HM.out.below hbr3).below hb6
        have hlook := hM6.look y0 hwf
        by_cases hm : y0 ∈ ids
        · have HZ : Hid (7 = V) := Lib.hid (HST.out 7 (by rw [HS3.out, if_pos hm]) (by omega))
          have HZZ : Hid (Z = 7) := Lib.hid (by rw [HQ3.out, ← HZ.out]; rfl)
          have hmz : decide (y0 ∈ ids) = true := decide_eq_true hm
          go_wp2_with fail
          go_ret
          exact ⟨ret_int HZZ.out.symm, below_grow HBW3.out HBW3.out.size hb6⟩
        have HZ : Hid (fnz (chkS d.last d.regs d.evs) (i + 1) (d.evs.length - (i + 1)) = V) := Lib.hid (HGO.out (by rw [HS3.out, if_neg hm]))
        have hmz : decide (y0 ∈ ids) = false := decide_eq_false hm
        obtain ⟨W7, hrun, hM7, hg7⟩ := hM6.put y0 hwf hm (by rw [HLN.out]; omega)
        rw [HLN.out] at hrun
        rw [HSN.out] at hM7
        have HM7 := Lib.hid hM7
        have HB7 := Lib.hid ((below_grow HBW3.out HBW3.out.size hb6).grown hg7 (below_grow HBW3.out HBW3.out.size hb6).size (fun k hk => by injection hk with hk; omega))
        have HD7 := Lib.hid ((hg7.block w.heap.size (heap_lt hB61) (fun h => by injection h with h; omega)).trans hB61)
        clear hM6 hM7 hg7 hwf hB61 hB62
        go_wp2_with fail
        exact ⟨⟨i + 1, by go_num, by omega, HZ, HM7, HB7, HD7⟩, by simp [intOf]; omega⟩
      have hdz : 0 < i := by omega
      have hdi : (1 : Int) ≤ (i : Int) := by omega
      have hdl : (i : Int) - 1 < (d.evs.length : Int) := by omega
      have hdk : (0 : Int) ≤ (i : Int) - 1 := by omega
      obtain ⟨ap, np, cp, q0, q1, q2, q3, q4, q5, q6⟩ := HP.out hdz
      have q0 := (hbr3.cell (cell_lt q0)).trans q0
      have q1 := (hbr3.cell (cell_lt q1)).trans q1
      have q2 := (hbr3.cell (cell_lt q2)).trans q2
      have q3 := (hbr3.cell (cell_lt q3)).trans q3
      have q4 := (hbr3.cell (cell_lt q4)).trans q4
      have q5 := (hbr3.cell (cell_lt q5)).trans q5
      have q6 := (hbr3.cell (cell_lt q6)).trans q6
      have cLs := fun w' => less_any p0 p1 p2 y0 y1 y2 p3 p5 y3 y5 (p4 : Int) (y4 : Int) (.slice ap np cp) (.slice av nv cv) ap av np cp nv cv rfl rfl w'
      clear hi0
      obtain ⟨LT, hLT⟩ : ∃ LT, lessI p1 p0 y1 y0 = LT := ⟨_, rfl⟩
      rw [hLT] at cLs HS2
      clear hLT
      cases LT
      · have HZ : Hid (8 = V) := Lib.hid (HST.out 8 (by rw [HS2.out, if_pos ⟨hdz, rfl⟩]) (by omega))
        have HZZ : Hid (Z = 8) := Lib.hid (by rw [HQ3.out, ← HZ.out]; rfl)
        go_wp2_with fail
        have htn : ((i : Int) - 1).toNat = i - 1 := by omega
        have hwr : IntKind.i64.wrap ((i : Int) - 1) = (i : Int) - 1 := IntWalk.i64_in _ (by omega)
        go_still_tail 10, (by kernel_rfl)
        clear hwr htn
        change wpList _ _ _ _ _ w3.drew
        go_wp2_with fail
        refine (cLs _).mono ?_
        rintro e w4 ⟨rfl, hb4'⟩
        have hb4 : Below w3.heap.size w3 w4 := ⟨hb4'.os, hb4'.tape, hb4'.output, hb4'.size, hb4'.block⟩
        clear hb4'
        go_wp2_with fail
        go_ret
        exact ⟨ret_int HZZ.out.symm, below_grow HBW3.out HBW3.out.size hb4⟩
      have HS3 := Lib.hid (HS2.out.trans (by rw [if_neg (by simp)]))
      clear HS2
      go_wp2_with fail
      have htn : ((i : Int) - 1).toNat = i - 1 := by omega
      have hwr : IntKind.i64.wrap ((i : Int) - 1) = (i : Int) - 1 := IntWalk.i64_in _ (by omega)
      go_still_tail 10, (by kernel_rfl)
      clear hwr htn
      change wpList _ _ _ _ _ w3.drew
      go_wp2_with fail
      refine (cLs _).mono ?_
      rintro e w4 ⟨rfl, hb4'⟩
      have hb4 : Below w3.heap.size w3 w4 := ⟨hb4'.os, hb4'.tape, hb4'.output, hb4'.size, hb4'.block⟩
      clear hb4' q0 q1 q2 q3 q4 q5 q6
      go_upto_region 21 with fail
      refine world_as (fun W6 => Below w3.heap.size w3 W6) hb4 ?_
      rintro W6 hb6
      obtain ⟨_, hB61, hB62, _⟩ := HN.out _ (below_trans hb3 hb6)
      clear c0 c1 c2 c3 c4 c5 c6 c7 cf d0 d1 d2 d3 d4 d5 d6 df hlook
      obtain ⟨d0, d1, d2, d3, d4, d5, d6, df, _⟩ := blk7 hB62
      have hM6 := (HM.out.below hbr3).below hb6
      have hlook := hM6.look y0 hwf
      by_cases hm : y0 ∈ ids
      · have HZ : Hid (7 = V) := Lib.hid (HST.out 7 (by rw [HS3.out, if_pos hm]) (by omega))
        have HZZ : Hid (Z = 7) := Lib.hid (by rw [HQ3.out, ← HZ.out]; rfl)
        have hmz : decide (y0 ∈ ids) = true := decide_eq_true hm
        go_wp2_with fail
        go_ret
        exact ⟨ret_int HZZ.out.symm, below_grow HBW3.out HBW3.out.size hb6⟩
      have HZ : Hid (fnz (chkS d.last d.regs d.evs) (i + 1) (d.evs.length - (i + 1)) = V) := Lib.hid (HGO.out (by rw [HS3.out, if_neg hm]))
      have hmz : decide (y0 ∈ ids) = false := decide_eq_false hm
      obtain ⟨W7, hrun, hM7, hg7⟩ := hM6.put y0 hwf hm (by rw [HLN.out]; omega)
      rw [HLN.out] at hrun
      rw [HSN.out] at hM7
      have HM7 := Lib.hid hM7
      have HB7 := Lib.hid ((below_grow HBW3.out HBW3.out.size hb6).grown hg7 (below_grow HBW3.out HBW3.out.size hb6).size (fun k hk => by injection hk with hk; omega))
      have HD7 := Lib.hid ((hg7.block w.heap.size (heap_lt hB61) (fun h => by injection h with h; omega)).trans hB61)
      clear hM6 hM7 hg7 hwf hB61 hB62
      go_wp2_with fail
      exact ⟨⟨i + 1, by go_num, by omega, HZ, HM7, HB7, HD7⟩, by simp [intOf]; omega⟩
    · obtain rfl : i = d.evs.length := by omega
      have hx := HX.out
      rw [fnz_end] at hx
      have HZ : Hid (Z = comE d.last (idsOf d.evs) d.evs d.cms) := Lib.hid (by rw [HQ3.out, if_pos hx.symm])
      have hall : ∀ e ∈ d.evs, e.rows.length ≤ 4 ∧ ∀ x ∈ e.rows, rowFit x := by
        intro e he
        refine ⟨?_, (HFE.out e he).r⟩
        have h0 := HV0.out
        rw [← hx, Nat.sub_zero, fnz_zero] at h0
        obtain ⟨j, hj, rfl⟩ := List.getElem_of_mem he
        have h1 := h0 j (Nat.zero_le _) (by omega)
        rw [chkS_def, getD_of hj] at h1
        split at h1
        · rename_i h2
          obtain ⟨_, _, r, _, h3⟩ := evE_zero h2
          exact (evE2_zero h3).2.1
        · exact absurd h1 (by assumption)
      have hM := HM.out
      rw [List.take_of_length_le (by simp [idsOf])] at hM
      have cM2 := fun w' (hb : Below wr.heap.size wr w') => cM bm (idsOf d.evs) w' (hM.below hb) (HV.out.below (below_grow HB.out hsz hb)) (RowR.below HC.out (below_grow HB.out hsz hb)) (by simp [idsOf]) hall hl1 (hE.below (below_grow HB.out hsz hb))
      have HZm := Lib.hid hM
      clear hx HX HM hM hall HQ3 HV0 cM
      have hiz : ¬ (d.evs.length : Int) < (d.evs.length : Int) := by omega
      obtain ⟨c0, c1, c2, c3, c4, c5, c6, c7, cf, _⟩ := blk8 HD.out
      go_wp2_with fail
      refine (cM2 _ (Below.refl _ _)).mono ?_
      rintro e w3 ⟨rfl, hb3⟩
      go_wp2_with fail
      go_ret
      exact ⟨ret_int HZ.out.symm, below_grow HB.out hsz hb3⟩
end Go.Proofs.YtgiaohccebolpaaGreatDoor
