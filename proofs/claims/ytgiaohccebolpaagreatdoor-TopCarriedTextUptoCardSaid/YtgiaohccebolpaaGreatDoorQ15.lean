import Derived.Test.YtgiaohccebolpaaGreatDoorQ14
namespace Go.Proofs.YtgiaohccebolpaaGreatDoor
open Go Go.RowKit
open Go.Lib hiding intOf
set_option linter.unusedVariables false
theorem len_any2 (B b : Nat) (l : List UInt8) (w : World) (h : Lib.IsBuilder 77 5 B b (Lib.byteCells l) w) :
    Calls Tryz.prog 27 #[.pointer (some ⟨b, 0, none⟩)] w fun e w' => e = .returned (.int .i64 (l.length : Int)) ∧ w' = w := by
  have c := Tryz.Builder_Len B b (Lib.byteCells l) w h
  rw [Lib.byteCells_length] at c; exact c
set_option maxHeartbeats 16000000 in
set_option maxRecDepth 100000 in
theorem encode_any (v : Value) (d : Dc) (w : World) (hV : DocV w v d) (hf : d.fit) (hE : Env w) :
    Calls Tryz.prog 10 #[v] w fun e w' => (∃ k : Int, e = .returned (.tuple #[.string (if encE d = 0 then ba (encS d) else ⟨#[]⟩), .int .i64 k, .int .i64 (encE d)])) ∧ Below w.heap.size w w' := by
  have cC := fun w' h hE => check_any v d w' h hf hE
  have HV := Lib.hid hV
  obtain ⟨vg, ve, vc, rfl, hG, hVe, hC⟩ := hV
  obtain ⟨ag, cg, rfl⟩ := RowR.len hG
  obtain ⟨a, c, rfl⟩ := hVe.len
  obtain ⟨ac, cc, rfl⟩ := RowR.len hC
  have hq : encE d = if chkE d = 0 then (if fnz (blkS (ticksOf d.rate) d.evs) 0 d.evs.length = 0 then (if 262144 < (encB (ticksOf d.rate) d.evs d.evs.length).length then 9 else 0) else fnz (blkS (ticksOf d.rate) d.evs) 0 d.evs.length) else chkE d := rfl
  have hacc := fun h => @chkE_acc d h
  have hs0 : encS d = encB (ticksOf d.rate) d.evs d.evs.length := rfl
  have hb0 := below1 (B := w.heap.size) (w := w) (.cells #[.string (ba d.title), .string (ba d.lang), .int .u8 (d.rate : Int), .bool d.drop, .int .i64 d.last, .slice ag d.regs.length cg, .slice a d.evs.length c, .slice ac d.cms.length cc] 27) (Nat.le_refl _)
  have hbox := heap_alloc_new w (.cells #[.string (ba d.title), .string (ba d.lang), .int .u8 (d.rate : Int), .bool d.drop, .int .i64 d.last, .slice ag d.regs.length cg, .slice a d.evs.length c, .slice ac d.cms.length cc] 27)
  have HB0 := Lib.hid hb0
  have HBX := Lib.hid hbox
  have HVE := Lib.hid hVe
  rw [hs0]
  clear hb0 hbox hVe hG hC hs0
  by_cases hc : chkE d = 0
  case neg =>
    rw [if_neg hc] at hq
    have hne : ¬ encE d = 0 := by rw [hq]; exact hc
    rw [if_neg hne, hq]
    rw [hq] at hne
    generalize chkE d = Z at *
    have hz : (Z == 0) = false := by simpa using hc
    clear hq hc hacc
    go_enter Tryz.func10, Tryz.ntmps10
    go_wp2_with fail
    refine (cC _ (HV.out.below HB0.out) (hE.below HB0.out)).mono ?_
    rintro e w1 ⟨rfl, hb1⟩
    have HB1 := Lib.hid (below_grow HB0.out HB0.out.size hb1)
    clear hb1
    go_wp2_with fail
    go_ret3
    exact ⟨⟨-1, rfl⟩, HB1.out⟩
  rw [if_pos hc] at hq
  rw [hc] at cC
  obtain ⟨hrt, hn4, _, hev⟩ := hacc hc
  obtain ⟨hok, _⟩ := rate_ok hrt
  have hfit := hf.evs
  have hr := hf.rate
  clear hc hacc hf hrt
  have cB : ∀ (i : Nat), i < d.evs.length → ∀ (vr : Value) (w : World), RowsR w vr (d.evs.getD i default).rows → Env w → Calls Tryz.prog 25 #[.int .u8 (d.rate : Int), .int .i64 ((i + 1 : Nat) : Int), evV (d.evs.getD i default).id (d.evs.getD i default).inn (d.evs.getD i default).out (ba (d.evs.getD i default).reg) ((d.evs.getD i default).kind : Int) (ba (d.evs.getD i default).spk) vr] w fun en w' => en = .returned (.tuple #[.string (if blkS (ticksOf d.rate) d.evs i = 0 then ba (blkL (ticksOf d.rate) (i + 1) (d.evs.getD i default)) else ⟨#[]⟩), .int .i64 (blkS (ticksOf d.rate) d.evs i)]) ∧ Below w.heap.size w w' := by
    intro i hi vr w hR hE
    obtain ⟨h1, _⟩ := hev i hi
    obtain ⟨_, h2, r, _, h3⟩ := evE_zero h1
    exact block_any d.rate hr hok (i + 1) (by omega) _ (hfit _ (by rw [getD_of hi]; exact List.getElem_mem hi)) h2 vr w hR (evE2_zero h3).2.1 hE
  have hbl : ∀ i, i < d.evs.length → (blkL (ticksOf d.rate) (i + 1) (d.evs.getD i default)).length ≤ 67108909 := by
    intro i hi
    obtain ⟨h1, _⟩ := hev i hi
    obtain ⟨_, h2, r, _, h3⟩ := evE_zero h1
    exact blkL_len _ _ (by omega) _ (hfit _ (by rw [getD_of hi]; exact List.getElem_mem hi)) (evE2_zero h3).2.1
  have hel : ∀ i, i ≤ d.evs.length → (encB (ticksOf d.rate) d.evs i).length ≤ 67108909 * i := by
    intro i
    induction i with
    | zero => intro _; simp [encB]
    | succ i ih =>
      intro hi
      have h1 := ih (by omega)
      have h2 := hbl i (by omega)
      rw [encB_succ, List.length_append]; omega
  clear hev hfit hok
  obtain ⟨V, hVV⟩ : ∃ V, fnz (blkS (ticksOf d.rate) d.evs) 0 (d.evs.length - 0) = V := ⟨_, rfl⟩
  have hV2 : fnz (blkS (ticksOf d.rate) d.evs) 0 d.evs.length = V := hVV
  rw [hV2] at hq
  have HQ := Lib.hid hq
  have HVV := Lib.hid hVV
  have HS := Lib.hid (fnz_step (blkS (ticksOf d.rate) d.evs))
  have HEB := Lib.hid (encB_succ (ticksOf d.rate) d.evs)
  generalize encE d = Z at *
  clear hq hVV hV2
  go_enter Tryz.func10, Tryz.ntmps10
  go_wp2_with fail
  refine (cC _ (HV.out.below HB0.out) (hE.below HB0.out)).mono ?_
  rintro e w1 ⟨rfl, hb1⟩
  have HB1 := Lib.hid (below_grow HB0.out HB0.out.size hb1)
  have HD1 := Lib.hid (blk_stay HBX.out hb1)
  have HI1 := Lib.hid (isb_new w1)
  have hsz1 := HB1.out.size
  clear hb1 cC HV HBX HB0
  obtain ⟨c0, c1, c2, c3, c4, c5, c6, c7, cf, hlt0⟩ := blk8 HD1.out
  have hD2 := blk_stay HD1.out (below1 (.cells #[.pointer none, .slice none 0 0] 77) (Nat.le_refl _))
  obtain ⟨f0, f1, f2, f3, f4, f5, f6, f7, ff, _⟩ := blk8 hD2
  go_wp2_with fail
  clear f0 f1 f2 f3 f4 f5 f6 f7 ff hD2 c0 c1 c2 c3 c4 c5 c6 c7 cf
  go_loopw [19] (fun v wx => ∃ i : Nat, v = .int .i64 i ∧ i ≤ d.evs.length ∧ Hid (fnz (blkS (ticksOf d.rate) d.evs) i (d.evs.length - i) = V) ∧ Hid (Lib.IsBuilder 77 5 w1.heap.size w1.heap.size (Lib.byteCells (encB (ticksOf d.rate) d.evs i)) wx) ∧ Hid (Below w1.heap.size w1 wx)) (fun v _ => d.evs.length - (intOf v).toNat)
  case atStart => exact ⟨0, rfl, Nat.zero_le _, HVV, HI1, Lib.hid (below1 _ (Nat.le_refl _))⟩
  case round =>
    clear HVV HI1
    obtain ⟨i, rfl, hil, HVV, HI, HB⟩ := hrel
    have hszb := HB.out.size
    by_cases hlt : i < d.evs.length
    · have hiz : (i : Int) < (d.evs.length : Int) := by omega
      have hVr := (HVE.out.below HB1.out).below HB.out
      obtain ⟨g, off, rfl, hg⟩ := hVr.addr (by omega)
      obtain ⟨vr, hRR, k0, k1, k2, k3, k4, k5, k6⟩ := hVr.at rfl i hlt
      have hvs := HS.out i d.evs.length hlt
      rw [HVV.out] at hvs
      have hbi := cB i hlt vr
      have heb := HEB.out i
      have hbl2 := hbl i hlt
      have hel2 := hel i hil
      clear hVr hel hbl cB
      have HRR := Lib.hid hRR
      have HBI := Lib.hid hbi
      have HVS := Lib.hid hvs
      have HE2 := Lib.hid heb
      clear hRR hbi hvs heb
      generalize d.evs.getD i default = X at *
      obtain ⟨y0, y1, y2, y3, y4, y5, y6⟩ := X
      dsimp only at *
      generalize blkL (ticksOf d.rate) (i + 1) ⟨y0, y1, y2, y3, y4, y5, y6⟩ = BL at *
      generalize blkS (ticksOf d.rate) d.evs i = BS at *
      obtain ⟨av, cv, rfl⟩ := HRR.out.len
      have hB0 := blk_stay HD1.out HB.out
      have hB9 := blk_stay hB0 (below1 (.cells #[.int .i64 y0, .int .i64 y1, .int .i64 y2, .string (ba y3), .int .u8 (y4 : Int), .string (ba y5), .slice av y6.length cv] 63) (Nat.le_refl _))
      have hB8 := heap_alloc_new wr (.cells #[.int .i64 y0, .int .i64 y1, .int .i64 y2, .string (ba y3), .int .u8 (y4 : Int), .string (ba y5), .slice av y6.length cv] 63)
      obtain ⟨c0, c1, c2, c3, c4, c5, c6, c7, cf, _⟩ := blk8 hB9
      obtain ⟨d0, d1, d2, d3, d4, d5, d6, df, _⟩ := blk7 hB8
      have hbr := HB.out.alloc hszb (.cells #[.int .i64 y0, .int .i64 y1, .int .i64 y2, .string (ba y3), .int .u8 (y4 : Int), .string (ba y5), .slice av y6.length cv] 63)
      have hE9 := (hE.below HB1.out).below hbr
      have hR9 := HRR.out.below (below1 (.cells #[.int .i64 y0, .int .i64 y1, .int .i64 y2, .string (ba y3), .int .u8 (y4 : Int), .string (ba y5), .slice av y6.length cv] 63) (Nat.le_refl wr.heap.size))
      have cX := HBI.out _ hR9 hE9
      rw [show ((i + 1 : Nat) : Int) = (i : Int) + 1 by omega] at cX
      have HI9 := Lib.hid (isb_stays HI.out (below1 (.cells #[.int .i64 y0, .int .i64 y1, .int .i64 y2, .string (ba y3), .int .u8 (y4 : Int), .string (ba y5), .slice av y6.length cv] 63) (Nat.le_refl wr.heap.size)))
      have HB9 := Lib.hid hbr
      clear hB0 hB8 hB9 hE9 hR9 hbr HI HRR HBI
      by_cases hbs : BS = 0
      case neg =>
        have hz : Z = BS := by rw [HQ.out, if_neg (by rw [HVS.out, if_neg hbs]; exact hbs), HVS.out, if_neg hbs]
        subst hz
        rw [if_neg hbs] at cX
        have hzz : (Z == 0) = false := by simpa using hbs
        clear HVS HQ HE2
        go_wp2_with fail
        refine cX.mono ?_
        rintro e w3 ⟨rfl, hb3⟩
        have HB3 := Lib.hid (below_grow HB1.out HB1.out.size (below_grow HB9.out HB9.out.size hb3))
        clear hb3
        go_wp2_with fail
        go_ret3
        exact ⟨⟨_, rfl⟩, HB3.out⟩
      rw [if_pos hbs] at cX
      have HV2 := Lib.hid (show fnz (blkS (ticksOf d.rate) d.evs) (i + 1) (d.evs.length - (i + 1)) = V by rw [HVS.out, if_pos hbs])
      subst hbs
      have cW := fun w' h hb => Tryz.Builder_WriteString w1.heap.size w1.heap.size (Lib.byteCells (encB (ticksOf d.rate) d.evs i)) (ba BL) w' h (by rw [Lib.byteCells_length, ba_size]; omega) hb
      clear HVS
      go_wp2_with fail
      refine cX.mono ?_
      rintro e w3 ⟨rfl, hb3⟩
      have HI3 := Lib.hid (isb_stays HI9.out hb3)
      have HB3 := Lib.hid (below_grow HB9.out HB9.out.size hb3)
      clear hb3
      go_wp2_with fail
      refine (cW _ HI3.out HB3.out.size).mono ?_
      rintro e w4 ⟨rfl, hI4, hb4⟩
      have HI4 := Lib.hid (isb_snoc hI4)
      rw [← HE2.out] at HI4
      have HB4 := Lib.hid (HB3.out.trans hb4)
      clear hI4 hb4
      go_wp2_with fail
      go_roundw
      case rel => exact ⟨i + 1, by go_num, by omega, HV2, HI4, HB4⟩
      case measure => simp [intOf]; omega
    · obtain rfl : i = d.evs.length := by omega
      have hv := HVV.out
      rw [fnz_end] at hv
      have hz : Z = if 262144 < (encB (ticksOf d.rate) d.evs d.evs.length).length then 9 else 0 := by rw [HQ.out, if_pos hv.symm]
      clear hv HQ HVV cB hbl
      have hel := hel d.evs.length (Nat.le_refl _)
      generalize hSe : encB (ticksOf d.rate) d.evs d.evs.length = S at *
      have cL := fun w' h => len_any2 w1.heap.size w1.heap.size S w' h
      have cT := fun w' h hb => Tryz.Builder_String_any w1.heap.size w1.heap.size S w' h hb
      have hiz : ¬ (d.evs.length : Int) < (d.evs.length : Int) := by omega
      by_cases hS : 262144 < S.length
      · have hSz : (262144 : Int) < (S.length : Int) := by omega
        rw [if_pos hS] at hz
        subst hz
        go_wp2_with fail
        refine (cL _ HI.out).mono ?_
        rintro e w3 ⟨rfl, rfl⟩
        go_wp2_with fail
        go_ret3
        exact ⟨⟨_, rfl⟩, below_grow HB1.out HB1.out.size HB.out⟩
      · have hSz : ¬ (262144 : Int) < (S.length : Int) := by omega
        rw [if_neg hS] at hz
        subst hz
        go_wp2_with fail
        refine (cL _ HI.out).mono ?_
        rintro e w3 ⟨rfl, rfl⟩
        go_wp2_with fail
        refine (cT _ HI.out hszb).mono ?_
        rintro e w4 ⟨rfl, hb4⟩
        go_wp2_with fail
        go_ret3
        exact ⟨⟨-1, by subst hSe; rfl⟩, below_grow HB1.out HB1.out.size (HB.out.trans hb4)⟩
end Go.Proofs.YtgiaohccebolpaaGreatDoor
namespace Go.Proofs.YtgiaohccebolpaaGreatDoor
open Go Go.RowKit
open Go.Lib hiding intOf
set_option linter.unusedVariables false
set_option maxHeartbeats 8000000 in
set_option maxRecDepth 100000 in
theorem Encode_any (v : Value) (d : Dc) (w : World) (hV : DocV w v d) (hf : d.fit) (hE : Env w) :
    Calls Tryz.prog 5 #[v] w fun e w' => e = .returned (.tuple #[.string (if encE d = 0 then ba (encS d) else ⟨#[]⟩), .int .i64 (encE d)]) ∧ Below w.heap.size w w' := by
  have c := fun w' h hE => encode_any v d w' h hf hE
  have HV := Lib.hid hV
  obtain ⟨vg, ve, vc, rfl, hG, hVe, hC⟩ := hV
  obtain ⟨ag, cg, rfl⟩ := RowR.len hG
  obtain ⟨a, ce, rfl⟩ := hVe.len
  obtain ⟨ac, cc, rfl⟩ := RowR.len hC
  have hb0 := below1 (B := w.heap.size) (w := w) (.cells #[.string (ba d.title), .string (ba d.lang), .int .u8 (d.rate : Int), .bool d.drop, .int .i64 d.last, .slice ag d.regs.length cg, .slice a d.evs.length ce, .slice ac d.cms.length cc] 27) (Nat.le_refl _)
  have HB0 := Lib.hid hb0
  obtain ⟨S, hS⟩ : ∃ S, (if encE d = 0 then ba (encS d) else (⟨#[]⟩ : ByteArray)) = S := ⟨_, rfl⟩
  obtain ⟨Z, hZ⟩ : ∃ Z, encE d = Z := ⟨_, rfl⟩
  rw [hS, hZ] at c ⊢
  clear hG hVe hC hb0 hS hZ
  go_enter Tryz.func5, Tryz.ntmps5
  go_wp2_with fail
  refine (c _ (HV.out.below HB0.out) (hE.below HB0.out)).mono ?_
  rintro e w1 ⟨⟨k, rfl⟩, hb1⟩
  have HB1 := Lib.hid (below_grow HB0.out HB0.out.size hb1)
  clear hb1
  go_wp2_with fail
  go_ret2
  exact ⟨rfl, HB1.out⟩
end Go.Proofs.YtgiaohccebolpaaGreatDoor
namespace Go.Proofs.YtgiaohccebolpaaGreatDoor
open Go Go.RowKit
open Go.Lib hiding intOf
set_option linter.unusedVariables false
/-! ### a row in normal form -/
theorem getD_appL {α : Type} (a b : List α) (z : α) (k : Nat) (h : k < a.length) : (a ++ b).getD k z = a.getD k z := by
  rw [List.getD_eq_getElem?_getD, List.getD_eq_getElem?_getD, List.getElem?_append_left h]
theorem getD_end {α : Type} (a : List α) (x z : α) : (a ++ [x]).getD a.length z = x := by
  rw [List.getD_eq_getElem?_getD, List.getElem?_append_right (Nat.le_refl _), Nat.sub_self]; rfl
def NF (d : Rw) : Prop := (∀ x ∈ d, x.t ≠ []) ∧ ∀ i, 0 < i → i < d.length → alk (d.getD (i - 1) default) (d.getD i default) = false
def Car (d : Rw) : Prop := ∀ x ∈ d, x.c = 0 ∧ x.r = []
theorem NF_nil : NF [] := ⟨fun x h => (by cases h), fun i _ h => (by cases h)⟩
theorem NF_pre {p q : Rw} (h : NF (p ++ q)) : NF p := by
  refine ⟨fun x hx => h.1 x (List.mem_append_left _ hx), fun i h0 hi => ?_⟩
  have h2 := h.2 i h0 (by rw [List.length_append]; omega)
  rw [getD_appL p q default _ (by omega), getD_appL p q default _ (by omega)] at h2
  exact h2
theorem NF_snoc {a : Rw} {x : Rn} : NF (a ++ [x]) ↔ NF a ∧ x.t ≠ [] ∧ (a ≠ [] → alk (lastR a) x = false) := by
  constructor
  · intro h
    refine ⟨NF_pre h, h.1 x (by simp), fun hne => ?_⟩
    have hl : 0 < a.length := List.length_pos_iff.2 hne
    have h2 := h.2 a.length hl (by simp)
    rw [getD_end, getD_appL a [x] default _ (by omega)] at h2
    exact h2
  · rintro ⟨h1, h2, h3⟩
    refine ⟨fun y hy => ?_, fun i h0 hi => ?_⟩
    · rcases List.mem_append.1 hy with h | h
      · exact h1.1 y h
      · simp at h; subst h; exact h2
    · rw [List.length_append, List.length_singleton] at hi
      rcases Nat.lt_or_ge i a.length with h | h
      · rw [getD_appL a _ default _ h, getD_appL a _ default _ (by omega)]; exact h1.2 i h0 h
      · obtain rfl : i = a.length := by omega
        rw [getD_end, getD_appL a _ default _ (by omega)]
        exact h3 (List.length_pos_iff.1 h0)
theorem last_take {d : Rw} (h : d ≠ []) : ∃ a y, d = a ++ [y] ∧ lastR d = y ∧ d.take (d.length - 1) = a := by
  refine ⟨d.take (d.length - 1), lastR d, last_split d h, rfl, rfl⟩
theorem nstep_NF {d : Rw} {x : Rn} (h : NF d) : NF (nstep d x) := by
  rw [nstep_def]
  split
  · exact h
  · rename_i hx
    split
    · rename_i hj
      obtain ⟨a, y, e, e2, e3⟩ := last_take hj.1
      rw [e2, e3]
      rw [e] at h
      obtain ⟨h1, h2, h3⟩ := NF_snoc.1 h
      exact NF_snoc.2 ⟨h1, by simp [h2], fun hne => h3 hne⟩
    · rename_i hj
      refine NF_snoc.2 ⟨h, hx, fun hne => ?_⟩
      cases hh : alk (lastR d) x with
      | false => rfl
      | true => exact absurd ⟨hne, hh⟩ hj
theorem last_mem {d : Rw} (h : d ≠ []) : lastR d ∈ d := by
  obtain ⟨a, y, e, e2, _⟩ := last_take h
  rw [e2, e]; simp
theorem nstep_mem {P : Rn → Prop} {d : Rw} {x : Rn} (hd : ∀ y ∈ d, P y) (hx : P x) (hj : ∀ y, P y → P { y with t := y.t ++ x.t }) : ∀ y ∈ nstep d x, P y := by
  rw [nstep_def]
  split
  · exact hd
  · split
    · rename_i h
      intro y hy
      rcases List.mem_append.1 hy with h1 | h1
      · exact hd y (List.mem_of_mem_take h1)
      · simp at h1; subst h1
        refine hj _ (hd _ ?_)
        exact last_mem h.1
    · intro y hy
      rcases List.mem_append.1 hy with h1 | h1
      · exact hd y h1
      · simp at h1; subst h1; exact hx
theorem nstep_plain (d : Rw) (x : Rn) : plainR (nstep d x) = plainR d ++ x.t := by
  rw [nstep_def]
  split
  · rename_i h; rw [h]; simp
  · split
    · rename_i h
      obtain ⟨a, y, e, e2, e3⟩ := last_take h.1
      rw [e2, e3, plainR_snoc, e, plainR_snoc, List.append_assoc]
    · rw [plainR_snoc]
theorem fold_NF' : ∀ (L d : Rw), NF d → NF (L.foldl nstep d)
  | [], d, h => h
  | x :: L, d, h => by rw [List.foldl_cons]; exact fold_NF' L _ (nstep_NF h)
theorem fold_mem {P : Rn → Prop} : ∀ (L d : Rw), (∀ y ∈ d, P y) → (∀ x ∈ L, P x) → (∀ x ∈ L, ∀ y, P y → P { y with t := y.t ++ x.t }) → ∀ y ∈ L.foldl nstep d, P y
  | [], d, h, _, _ => h
  | x :: L, d, h, hx, hj => by
    rw [List.foldl_cons]
    exact fold_mem L _ (nstep_mem h (hx x List.mem_cons_self) (hj x List.mem_cons_self)) (fun y hy => hx y (List.mem_cons_of_mem _ hy)) (fun y hy => hj y (List.mem_cons_of_mem _ hy))
theorem fold_plain : ∀ (L d : Rw), plainR (L.foldl nstep d) = plainR d ++ plainR L
  | [], d => by simp [plainR]
  | x :: L, d => by rw [List.foldl_cons, fold_plain L _, nstep_plain, List.append_assoc]; simp [plainR]
theorem fold_id : ∀ (d b : Rw), NF (b ++ d) → d.foldl nstep b = b ++ d
  | [], b, _ => by simp
  | x :: t, b, h => by
    have e : b ++ x :: t = (b ++ [x]) ++ t := by simp
    rw [e] at h ⊢
    obtain ⟨h1, h2, h3⟩ := NF_snoc.1 (NF_pre h)
    have hs : nstep b x = b ++ [x] := by
      rw [nstep_def, if_neg h2, if_neg]
      rintro ⟨a, c⟩; rw [h3 a] at c; cases c
    rw [List.foldl_cons, hs]
    exact fold_id t _ h
theorem norm_NF (L : Rw) : NF (normR L) := fold_NF' L [] NF_nil
theorem norm_id {L : Rw} (h : NF L) : normR L = L := fold_id L [] (by simpa using h)
theorem car_NF (L : Rw) : NF (carR L) := norm_NF _
theorem car_Car (L : Rw) : Car (carR L) := by
  refine fold_mem (P := fun x => x.c = 0 ∧ x.r = []) (carL L) [] (fun y h => by cases h) (fun x hx => ?_) (fun x _ y h => h)
  simp only [carL, List.mem_map] at hx
  obtain ⟨y, _, rfl⟩ := hx
  exact ⟨rfl, rfl⟩
theorem carL_id {L : Rw} (h : Car L) : carL L = L := by
  induction L with
  | nil => rfl
  | cons x L ih =>
    obtain ⟨a, b⟩ := h x List.mem_cons_self
    show carX x :: carL L = _
    rw [ih (fun y hy => h y (List.mem_cons_of_mem _ hy))]
    congr 1
    obtain ⟨t, c, i, u, r⟩ := x
    simp only at a b
    subst a b; rfl
theorem carR_carR (L : Rw) : carR (carR L) = carR L := by
  show normR (carL (carR L)) = _
  rw [carL_id (car_Car L), norm_id (car_NF L)]
theorem plain_carL (L : Rw) : plainR (carL L) = plainR L := by
  induction L with
  | nil => rfl
  | cons x L ih => show x.t ++ plainR (carL L) = x.t ++ plainR L; rw [ih]
theorem plain_carR (L : Rw) : plainR (carR L) = plainR L := by
  show plainR ((carL L).foldl nstep []) = _
  rw [fold_plain, plain_carL]; rfl
theorem valid_carR {L : Rw} (h : ∀ x ∈ L, validC x.t = true) : ∀ x ∈ carR L, validC x.t = true := by
  have hc : ∀ x ∈ carL L, validC x.t = true := by
    intro x hx
    simp only [carL, List.mem_map] at hx
    obtain ⟨y, hy, rfl⟩ := hx
    exact h y hy
  refine fold_mem (P := fun x => validC x.t = true) (carL L) [] (fun y h => by cases h) hc (fun x hx y hy => ?_)
  show validC (y.t ++ x.t) = true
  rw [valid_app hy]; exact hc x hx
/-! ### what Check of a row says of it -/
theorem scS_zero {L : Rw} {i : Nat} : scS L i = 0 ↔ validC (L.getD i default).t = true ∧ (L.getD i default).t ≠ [] ∧ okSt (L.getD i default).c = true ∧ validC (L.getD i default).r = true ∧ (0 < i → alk (L.getD (i - 1) default) (L.getD i default) = false) := by
  rw [scS_def, ba_empty]
  generalize L.getD i default = X
  generalize alk (L.getD (i - 1) default) X = A
  by_cases ht : X.t = []
  · rw [ht]; simp [valid_nil]
  · rcases Nat.eq_zero_or_pos i with rfl | hi
    · cases validC X.t <;> cases okSt X.c <;> cases validC X.r <;> simp [ht]
    · have h0 : i ≠ 0 := by omega
      cases validC X.t <;> cases okSt X.c <;> cases validC X.r <;> cases A <;> simp [ht, h0, hi]
theorem scE_at {L : Rw} (h : scE L = 0) : L.length ≤ 16 ∧ ∀ i, i < L.length → scS L i = 0 := by
  unfold scE at h
  split at h
  · cases h
  · exact ⟨by omega, fun i hi => (fnz_zero _ _ _).1 h i (Nat.zero_le _) (by omega)⟩
theorem scE_all {L : Rw} (h : scE L = 0) : ∀ x ∈ L, validC x.t = true := by
  intro x hx
  obtain ⟨j, hj, rfl⟩ := List.getElem_of_mem hx
  have h1 := scS_zero.1 ((scE_at h).2 j hj)
  rw [getD_of hj] at h1
  exact h1.1
theorem scE_of {L : Rw} (h16 : L.length ≤ 16) (hv : ∀ x ∈ L, validC x.t = true) (hc : Car L) (hn : NF L) : scE L = 0 := by
  unfold scE
  rw [if_neg (by omega)]
  refine (fnz_zero _ _ _).2 fun j _ hj => scS_zero.2 ?_
  have hj' : j < L.length := by omega
  have hn2 := hn.2 j
  rw [getD_of hj']
  rw [getD_of hj'] at hn2
  have hm := List.getElem_mem hj'
  obtain ⟨c0, r0⟩ := hc _ hm
  rw [c0, r0]
  exact ⟨hv _ hm, hn.1 _ hm, rfl, rfl, fun h0 => hn2 h0 hj'⟩
theorem scE_car {L : Rw} (h : scE L = 0) : scE (carR L) = 0 :=
  scE_of (Nat.le_trans (carR_len L) (scE_at h).1) (valid_carR (scE_all h)) (car_Car L) (car_NF L)
theorem lenFrom_runes : ∀ (L : Rw) (s : Int), (∀ x ∈ L, validC x.t = true) → lenFrom s L = s + ((runes (plainR L)).length : Int)
  | [], s, _ => by simp [lenFrom, plainR, runes_nil]
  | x :: t, s, h => by
    have hx := h x List.mem_cons_self
    have hl : lenC x.t = ((runes x.t).length : Int) := by unfold lenC; rw [if_pos hx]
    rw [lenFrom_cons, hl, if_neg (by omega), lenFrom_runes t _ (fun y hy => h y (List.mem_cons_of_mem _ hy))]
    show _ = s + ((runes (x.t ++ plainR t)).length : Int)
    rw [runes_app hx, List.length_append]; omega
theorem lenR_car {L : Rw} (h : ∀ x ∈ L, validC x.t = true) : lenR (carR L) = lenR L := by
  unfold lenR
  rw [lenFrom_runes _ _ h, lenFrom_runes _ _ (valid_carR h), plain_carR]
theorem rowE_zero {L : Rw} (h : rowE L = 0) : scE L = 0 ∧ badT (plainR L) = false ∧ lenR L ≤ 32 := by
  unfold rowE at h
  split at h
  case isFalse h1 => exact absurd h h1
  rename_i h1
  split at h
  · cases h
  · rename_i h2
    split at h
    · cases h
    · exact ⟨h1, by simpa using h2, by omega⟩
theorem rowE_of {L : Rw} (h : scE L = 0) (hb : badT (plainR L) = false) (hl : lenR L ≤ 32) : rowE L = 0 := by
  unfold rowE
  rw [if_pos h, if_neg (by rw [hb]; simp), if_neg (by omega)]
theorem rowE_car {L : Rw} (h : rowE L = 0) : rowE (carR L) = 0 := by
  obtain ⟨h1, h2, h3⟩ := rowE_zero h
  exact rowE_of (scE_car h1) (by rw [plain_carR]; exact h2) (by rw [lenR_car (scE_all h1)]; exact h3)
theorem lenR_of {L : Rw} (h : rowE L = 0) : 0 ≤ lenR L ∧ lenR L ≤ 32 := by
  obtain ⟨h1, h2, h3⟩ := rowE_zero h
  refine ⟨?_, h3⟩
  unfold lenR
  rw [lenFrom_runes _ _ (scE_all h1)]; omega
/-! ### the document as the form carries it -/
def redE (k : Nat) (e : Ev) : Ev := ⟨(k : Int), e.inn, e.out, [], 1, [], e.rows.map carR⟩
def redN (evs : List Ev) (i : Nat) : List Ev := (List.range i).map fun j => redE (j + 1) (evs.getD j default)
def redL (evs : List Ev) : List Ev := redN evs evs.length
def redD (d : Dc) : Dc := ⟨[], [], d.rate, d.drop, (d.evs.length : Int), [], redL d.evs, []⟩
theorem redN_succ (evs : List Ev) (i : Nat) : redN evs (i + 1) = redN evs i ++ [redE (i + 1) (evs.getD i default)] := by
  unfold redN; rw [List.range_succ, List.map_append]; rfl
theorem redN_len (evs : List Ev) (i : Nat) : (redN evs i).length = i := by simp [redN]
theorem redL_len (evs : List Ev) : (redL evs).length = evs.length := redN_len _ _
theorem redN_get (evs : List Ev) (i j : Nat) (h : j < i) : (redN evs i).getD j default = redE (j + 1) (evs.getD j default) := by
  rw [getD_of (by rw [redN_len]; exact h)]
  simp [redN]
theorem us_dflt : usB dflt = true := by decide +kernel
theorem plE_dflt {l : List Int} (h4 : l.length ≤ 4) (h : ∀ n ∈ l, 0 ≤ n ∧ n ≤ 32) : plE dflt l = 0 := by
  unfold plE
  rw [us_dflt, if_neg (by simp), if_neg (by show ¬ (4 : Int) < _; omega)]
  refine (fnz_zero _ _ _).2 fun j _ hj => ?_
  have hj' : j < l.length := by omega
  have hm := h _ (List.getElem_mem hj')
  rw [plS_eq, getD_of hj', if_neg (by omega), if_neg (by show ¬ (32 : Int) < _; omega)]
theorem rows_all {rows : List Rw} (h : fnz (rowsE rows) 0 rows.length = 0) : ∀ r ∈ rows, rowE r = 0 := by
  intro r hr
  obtain ⟨j, hj, rfl⟩ := List.getElem_of_mem hr
  have h1 := (fnz_zero _ _ _).1 h j (Nat.zero_le _) (by omega)
  unfold rowsE at h1
  rw [getD_of hj] at h1; exact h1
theorem rows_of {rows : List Rw} (h : ∀ r ∈ rows, rowE r = 0) : fnz (rowsE rows) 0 rows.length = 0 := by
  refine (fnz_zero _ _ _).2 fun j _ hj => ?_
  have hj' : j < rows.length := by omega
  unfold rowsE
  rw [getD_of hj']; exact h _ (List.getElem_mem hj')
theorem fnd_nil (R : List Rg) : fnd R (ba []) = some dflt := by unfold fnd; rw [if_pos (by rw [ba_list]; rfl)]
theorem evE_of {k : Nat} {a b : Int} {rows : List Rw} (R : List Rg) (hk : 1 ≤ k) (hk2 : k ≤ 1099511627776) (hs : okSpan a b = true) (h1 : 1 ≤ rows.length) (h4 : rows.length ≤ 4) (hr : ∀ r ∈ rows, rowE r = 0) : evE R ⟨(k : Int), a, b, [], 1, [], rows⟩ = 0 := by
  unfold evE
  simp only
  rw [if_neg (by omega), if_neg (by omega), hs, if_neg (by simp), fnd_nil]
  unfold evE3 evE2
  simp only
  rw [if_neg (by omega), if_neg (by simp), if_neg (by omega), if_pos (rows_of hr)]
  refine plE_dflt (by simpa using h4) fun n hn => ?_
  obtain ⟨r, h, rfl⟩ := List.mem_map.1 hn
  exact lenR_of (hr r h)
theorem evE_red {R : List Rg} {e : Ev} (h : evE R e = 0) (k : Nat) (hk : 1 ≤ k) (hk2 : k ≤ 1099511627776) : evE [] (redE k e) = 0 := by
  obtain ⟨_, hs, r, _, h2⟩ := evE_zero h
  obtain ⟨h1, h4, hr⟩ := evE2_zero h2
  refine evE_of [] hk hk2 hs (by simpa using h1) (by simpa using h4) fun x hx => ?_
  obtain ⟨y, hy, rfl⟩ := List.mem_map.1 hx
  exact rowE_car (rows_all hr y hy)
theorem cmpI_same (a : Int) : cmpI a a = 0 := by unfold cmpI; rw [if_neg (by omega), if_neg (by omega)]
theorem cmpI_lt {a b : Int} (h : a < b) : cmpI a b = -1 := by unfold cmpI; rw [if_pos h]
theorem cmpI_gt {a b : Int} (h : b < a) : cmpI a b = 1 := by unfold cmpI; rw [if_neg (by omega), if_pos h]
theorem ltE_le {x y : Ev} (h : ltE x y = true) : x.inn ≤ y.inn := by
  unfold ltE orI at h
  rw [decide_eq_true_eq] at h
  rcases Int.lt_trichotomy x.inn y.inn with h1 | h1 | h1
  · omega
  · omega
  · rw [cmpI_gt h1, if_neg (by omega)] at h
    omega
theorem ltE_red {x y : Ev} (j : Nat) (h : x.inn ≤ y.inn) : ltE (redE j x) (redE (j + 1) y) = true := by
  show decide (orI (cmpI x.inn y.inn) (cmpI ((j : Nat) : Int) ((j + 1 : Nat) : Int)) < 0) = true
  rw [decide_eq_true_eq]
  unfold orI
  rcases Int.lt_or_eq_of_le h with h1 | h1
  · rw [cmpI_lt h1, if_neg (by omega)]; omega
  · rw [h1, cmpI_same, if_pos rfl, cmpI_lt (by omega)]; omega
theorem ids_red (evs : List Ev) (n i : Nat) (h : i < n) : ((i + 1 : Nat) : Int) ∉ (idsOf (redN evs n)).take i := by
  intro hm
  obtain ⟨j, hj, e⟩ := List.getElem_of_mem hm
  rw [List.length_take] at hj
  have hj1 : j < i := by omega
  simp [idsOf, redN, redE] at e
  omega
theorem chkE_red {d : Dc} (h : chkE d = 0) : chkE (redD d) = 0 := by
  obtain ⟨hr, hn, hl, hev⟩ := chkE_acc h
  have hhead : headE [] [] d.rate d.drop (d.evs.length : Int) = 0 := by
    unfold headE
    rw [if_neg (by rw [valid_nil]; simp), if_neg (by simp), if_neg (by simp), if_pos hr]
    unfold lastE
    rw [if_neg (by omega), if_neg (by omega)]
  have hcl : clE [] = 0 := by decide +kernel
  have hev2 : fnz (chkS (d.evs.length : Int) [] (redL d.evs)) 0 (redL d.evs).length = 0 := by
    refine (fnz_zero _ _ _).2 fun i _ hi => ?_
    rw [redL_len] at hi
    have hi' : i < d.evs.length := by omega
    obtain ⟨h1, h2⟩ := hev i hi'
    rw [chkS_def]
    have e1 : (redL d.evs).getD i default = redE (i + 1) (d.evs.getD i default) := redN_get _ _ _ hi'
    rw [e1, if_pos (evE_red h1 _ (by omega) (by omega)), if_neg (by show ¬ _ < ((i + 1 : Nat) : Int); omega), if_neg, if_neg]
    · exact ids_red d.evs d.evs.length i hi'
    · rintro ⟨h0, hlt⟩
      have e2 : (redL d.evs).getD (i - 1) default = redE (i - 1 + 1) (d.evs.getD (i - 1) default) := redN_get _ _ _ (by omega)
      rw [e2, show i - 1 + 1 = i by omega, ltE_red i (ltE_le (h2 h0))] at hlt
      cases hlt
  have hco : comE (d.evs.length : Int) (idsOf (redL d.evs)) (redL d.evs) [] = 0 := rfl
  unfold chkE redD
  simp only
  rw [if_pos hhead, if_pos hcl]
  unfold chkE2
  rw [redL_len] at hev2 ⊢
  rw [if_neg (by omega), if_pos hev2, hco]
theorem markE_zero {L : Rw} (h : markE L = 0) : scE L = 0 ∧ (plainR L).any tagB = false := by
  unfold markE at h
  split at h
  case isFalse h1 => exact absurd h h1
  rename_i h1
  split at h
  · cases h
  · rename_i h2; exact ⟨h1, by simpa using h2⟩
theorem markE_car {L : Rw} (h : markE L = 0) : markE (carR L) = 0 := by
  obtain ⟨h1, h2⟩ := markE_zero h
  unfold markE
  rw [if_pos (scE_car h1), plain_carR, if_neg (by rw [h2]; simp)]
theorem mkR_car (L : Rw) : mkR (carR L) = mkR L := by unfold mkR; rw [carR_carR]
theorem rowsM_car (rows : List Rw) : rowsM (rows.map carR) = rowsM rows := by
  induction rows with
  | nil => rfl
  | cons r rows ih => show (mkR (carR r) ++ [10]) ++ rowsM (rows.map carR) = (mkR r ++ [10]) ++ rowsM rows; rw [ih, mkR_car]
theorem blkL_red (T : Int) (n k : Nat) (e : Ev) : blkL T n (redE k e) = blkL T n e := by
  show blkH T n e.inn e.out ++ rowsM (e.rows.map carR) ++ [10] = _
  rw [rowsM_car]; rfl
theorem blkE_zero {T : Int} {e : Ev} (h : blkE T e = 0) : e.inn * T ≤ 10378368000 ∧ e.out * T ≤ 10378368000 ∧ ∀ r ∈ e.rows, markE r = 0 := by
  unfold blkE at h
  split at h
  case isFalse => cases h
  rename_i h1
  split at h
  case isFalse => cases h
  rename_i h2
  refine ⟨h1, h2, fun r hr => ?_⟩
  obtain ⟨j, hj, rfl⟩ := List.getElem_of_mem hr
  have h3 := (fnz_zero _ _ _).1 h j (Nat.zero_le _) (by omega)
  unfold rmkS at h3
  rw [getD_of hj] at h3; exact h3
theorem blkE_red {T : Int} {e : Ev} (k : Nat) (h : blkE T e = 0) : blkE T (redE k e) = 0 := by
  obtain ⟨h1, h2, h3⟩ := blkE_zero h
  unfold blkE redE
  simp only
  rw [if_pos h1, if_pos h2]
  refine (fnz_zero _ _ _).2 fun j _ hj => ?_
  have hj' : j < (e.rows.map carR).length := by omega
  unfold rmkS
  rw [getD_of hj']
  simp only [List.getElem_map]
  exact markE_car (h3 _ (List.getElem_mem _))
structure Enc (d : Dc) : Prop where
  chk : chkE d = 0
  blk : ∀ i, i < d.evs.length → blkE (ticksOf d.rate) (d.evs.getD i default) = 0
  len : (encS d).length ≤ 262144
theorem encE_zero {d : Dc} (h : encE d = 0) : Enc d := by
  unfold encE at h
  split at h
  case isFalse h1 => exact absurd h h1
  rename_i h1
  split at h
  case isFalse h2 => exact absurd h h2
  rename_i h2
  split at h
  · cases h
  · exact ⟨h1, fun i hi => (fnz_zero _ _ _).1 h2 i (Nat.zero_le _) (by omega), by unfold encS; omega⟩
theorem encE_of {d : Dc} (h : Enc d) : encE d = 0 := by
  unfold encE
  rw [if_pos h.chk, if_pos, if_neg]
  · have := h.len; unfold encS at this; omega
  · exact (fnz_zero _ _ _).2 fun j _ hj => h.blk j (by omega)
theorem encB_red (T : Int) (evs : List Ev) (n : Nat) : ∀ i, i ≤ n → encB T (redN evs n) i = encB T evs i
  | 0, _ => rfl
  | i + 1, h => by rw [encB_succ, encB_succ, encB_red T evs n i (by omega), redN_get _ _ _ (by omega), blkL_red]
theorem encS_red (d : Dc) : encS (redD d) = encS d := by
  show encB (ticksOf d.rate) (redL d.evs) (redL d.evs).length = _
  rw [redL_len]
  exact encB_red _ _ _ _ (Nat.le_refl _)
theorem enc_red {d : Dc} (h : Enc d) : Enc (redD d) := by
  refine ⟨chkE_red h.chk, fun i hi => ?_, by rw [encS_red]; exact h.len⟩
  have hi' : i < d.evs.length := by
    have : (redD d).evs.length = d.evs.length := redL_len _
    omega
  have e1 : (redD d).evs.getD i default = redE (i + 1) (d.evs.getD i default) := redN_get _ _ _ hi'
  rw [e1]
  exact blkE_red _ (h.blk i hi')
end Go.Proofs.YtgiaohccebolpaaGreatDoor
namespace Go.Proofs.YtgiaohccebolpaaGreatDoor
open Go Go.RowKit
open Go.Lib hiding intOf
set_option linter.unusedVariables false
/-! ### the row that a text with tags means -/
def tgS : Nat → List UInt8
  | 1 => [60, 105, 62]
  | 2 => [60, 47, 105, 62]
  | 3 => [60, 117, 62]
  | 4 => [60, 47, 117, 62]
  | 5 => [60, 98, 62]
  | 6 => [60, 47, 98, 62]
  | _ => []
/-- The last of the first i tags with which a text begins. -/
def best (s : List UInt8) : Nat → Nat
  | 0 => 0
  | i + 1 => if Lib.hasPrefix s (tgS (i + 1)) = true then i + 1 else best s i
theorem best_succ (s : List UInt8) (i : Nat) : best s (i + 1) = if Lib.hasPrefix s (tgS (i + 1)) = true then i + 1 else best s i := rfl
theorem best_le (s : List UInt8) : ∀ i, best s i ≤ i
  | 0 => Nat.le_refl _
  | i + 1 => by rw [best_succ]; split <;> have := best_le s i <;> omega
/-- Which tag a text begins with: 1 to 6; 0 for none. -/
def tagN (s : List UInt8) : Nat := best s 6
abbrev rnS (t : List UInt8) (i u : Bool) : Rn := ⟨t, 0, i, u, []⟩
def nxI (k : Nat) (i : Bool) : Bool := if k = 1 then true else if k = 2 then false else i
def nxU (k : Nat) (u : Bool) : Bool := if k = 3 then true else if k = 4 then false else u
def tgW (k : Nat) : Nat := if k = 2 ∨ k = 4 ∨ k = 6 then 4 else 3
def pmGo : Nat → Rw → Bool → Bool → List UInt8 → List UInt8 → Rw
  | 0, out, i, u, text, _ => out ++ [rnS text i u]
  | f + 1, out, i, u, text, s => if s = [] then out ++ [rnS text i u] else
      if tagN s = 0 then pmGo f out i u (text ++ [s.getD 0 0]) (s.drop 1)
      else pmGo f (out ++ [rnS text i u]) (nxI (tagN s) i) (nxU (tagN s) u) [] (s.drop (tgW (tagN s)))
def pmR (out : Rw) (i u : Bool) (text s : List UInt8) : Rw := pmGo s.length out i u text s
def pm (s : List UInt8) : Rw := normR (pmR [] false false [] s)
theorem tgW_two (k : Nat) : tgW k = 3 ∨ tgW k = 4 := by unfold tgW; split <;> simp
theorem pmGo_fuel : ∀ (n m : Nat) (out : Rw) (i u : Bool) (text s : List UInt8), s.length ≤ n → s.length ≤ m → pmGo n out i u text s = pmGo m out i u text s
  | 0, 0, out, i, u, text, s, _, _ => rfl
  | 0, m + 1, out, i, u, text, s, hn, _ => by
    obtain rfl : s = [] := List.length_eq_zero_iff.1 (by omega)
    simp [pmGo]
  | n + 1, 0, out, i, u, text, s, _, hm => by
    obtain rfl : s = [] := List.length_eq_zero_iff.1 (by omega)
    simp [pmGo]
  | n + 1, m + 1, out, i, u, text, s, hn, hm => by
    unfold pmGo
    by_cases hs : s = []
    · rw [if_pos hs, if_pos hs]
    · have hl : 0 < s.length := List.length_pos_iff.2 hs
      rw [if_neg hs, if_neg hs]
      by_cases ht : tagN s = 0
      · rw [if_pos ht, if_pos ht]
        exact pmGo_fuel n m _ _ _ _ _ (by rw [List.length_drop]; omega) (by rw [List.length_drop]; omega)
      · rw [if_neg ht, if_neg ht]
        have hw := tgW_two (tagN s)
        exact pmGo_fuel n m _ _ _ _ _ (by rw [List.length_drop]; omega) (by rw [List.length_drop]; omega)
theorem pm_nil (out : Rw) (i u : Bool) (text : List UInt8) : pmR out i u text [] = out ++ [rnS text i u] := rfl
theorem pm_step (out : Rw) (i u : Bool) (text s : List UInt8) (hs : s ≠ []) :
    pmR out i u text s = if tagN s = 0 then pmR out i u (text ++ [s.getD 0 0]) (s.drop 1) else pmR (out ++ [rnS text i u]) (nxI (tagN s) i) (nxU (tagN s) u) [] (s.drop (tgW (tagN s))) := by
  have hl : 0 < s.length := List.length_pos_iff.2 hs
  unfold pmR
  obtain ⟨n, hn⟩ : ∃ n, s.length = n + 1 := ⟨s.length - 1, by omega⟩
  have hw := tgW_two (tagN s)
  rw [hn]
  show (if s = [] then _ else _) = _
  rw [if_neg hs]
  by_cases ht : tagN s = 0
  · rw [if_pos ht, if_pos ht]
    exact pmGo_fuel _ _ _ _ _ _ _ (by rw [List.length_drop]; omega) (Nat.le_refl _)
  · rw [if_neg ht, if_neg ht]
    exact pmGo_fuel _ _ _ _ _ _ _ (by rw [List.length_drop]; omega) (Nat.le_refl _)
/-! ### reading a row's markup back -/
theorem tagN_char (b : UInt8) (s : List UInt8) (h : b ≠ 60) : tagN (b :: s) = 0 := by
  have hh : (60 == b) = false := by simpa using Ne.symm h
  simp [tagN, best, Lib.hasPrefix, tgS, List.isPrefixOf, hh]
def clean (t : List UInt8) : Prop := ∀ b ∈ t, b ≠ 60
theorem pm_text : ∀ (t : List UInt8) (out : Rw) (i u : Bool) (text s : List UInt8), clean t → pmR out i u text (t ++ s) = pmR out i u (text ++ t) s
  | [], out, i, u, text, s, _ => by simp
  | b :: t, out, i, u, text, s, h => by
    show pmR out i u text (b :: (t ++ s)) = _
    rw [pm_step _ _ _ _ _ (by simp), if_pos (tagN_char b _ (h b List.mem_cons_self))]
    show pmR out i u (text ++ [b]) (t ++ s) = _
    rw [pm_text t out i u _ s (fun c hc => h c (List.mem_cons_of_mem _ hc))]
    simp
theorem pm_i1 (out : Rw) (i u : Bool) (text s : List UInt8) : pmR out i u text ([60, 105, 62] ++ s) = pmR (out ++ [rnS text i u]) true u [] s := by
  rw [pm_step _ _ _ _ _ (by simp)]
  have h : tagN ([60, 105, 62] ++ s) = 1 := by simp [tagN, best, Lib.hasPrefix, tgS, List.isPrefixOf]
  rw [h, if_neg (by omega)]; rfl
theorem pm_i0 (out : Rw) (i u : Bool) (text s : List UInt8) : pmR out i u text ([60, 47, 105, 62] ++ s) = pmR (out ++ [rnS text i u]) false u [] s := by
  rw [pm_step _ _ _ _ _ (by simp)]
  have h : tagN ([60, 47, 105, 62] ++ s) = 2 := by simp [tagN, best, Lib.hasPrefix, tgS, List.isPrefixOf]
  rw [h, if_neg (by omega)]; rfl
theorem pm_u1 (out : Rw) (i u : Bool) (text s : List UInt8) : pmR out i u text ([60, 117, 62] ++ s) = pmR (out ++ [rnS text i u]) i true [] s := by
  rw [pm_step _ _ _ _ _ (by simp)]
  have h : tagN ([60, 117, 62] ++ s) = 3 := by simp [tagN, best, Lib.hasPrefix, tgS, List.isPrefixOf]
  rw [h, if_neg (by omega)]; rfl
theorem pm_u0 (out : Rw) (i u : Bool) (text s : List UInt8) : pmR out i u text ([60, 47, 117, 62] ++ s) = pmR (out ++ [rnS text i u]) i false [] s := by
  rw [pm_step _ _ _ _ _ (by simp)]
  have h : tagN ([60, 47, 117, 62] ++ s) = 4 := by simp [tagN, best, Lib.hasPrefix, tgS, List.isPrefixOf]
  rw [h, if_neg (by omega)]; rfl
theorem norm_snoc (a : Rw) (x : Rn) : normR (a ++ [x]) = nstep (normR a) x := by unfold normR; rw [List.foldl_append]; rfl
theorem nstep_nil (d : Rw) (i u : Bool) : nstep d (rnS [] i u) = d := by rw [nstep_def, if_pos rfl]
theorem norm_none (a : Rw) (i u : Bool) : normR (a ++ [rnS [] i u]) = normR a := by rw [norm_snoc, nstep_nil]
theorem nstep_new {a : Rw} {x : Rn} (h : NF (a ++ [x])) : nstep a x = a ++ [x] := by
  obtain ⟨h1, h2, h3⟩ := NF_snoc.1 h
  rw [nstep_def, if_neg h2, if_neg]
  rintro ⟨hn, ha⟩; rw [h3 hn] at ha; cases ha
theorem rn_eq {x : Rn} (h : x.c = 0 ∧ x.r = []) : x = rnS x.t x.i x.u := by
  obtain ⟨t, c, i, u, r⟩ := x
  simp only at h
  obtain ⟨rfl, rfl⟩ := h; rfl
/-- What a flushed part and a text under way stand for. -/
structure Flow (out : Rw) (T : List UInt8) (a : Rw) : Prop where
  n : normR (out ++ [rnS T false false]) = a
  l : T ≠ [] → a ≠ [] ∧ (lastR a).c = 0 ∧ (lastR a).r = [] ∧ (lastR a).i = false ∧ (lastR a).u = false
theorem lastR_snoc (a : Rw) (x : Rn) : lastR (a ++ [x]) = x := by
  unfold lastR
  rw [show (a ++ [x]).length - 1 = a.length by simp, getD_end]
theorem alk_same {x y : Rn} (hx : x.c = 0 ∧ x.r = []) (hy : y.c = 0 ∧ y.r = []) (hi : x.i = y.i) (hu : x.u = y.u) : alk x y = true := by
  unfold alk alkV stEq
  rw [hx.1, hx.2, hy.1, hy.2, hi, hu, ba_empty]; simp
theorem pm_run {C : Rw} {x : Rn} {a out : Rw} {T : List UInt8} (hF : Flow out T a) (hN : NF (a ++ [x])) (hc : x.c = 0 ∧ x.r = []) (hcl : clean x.t) :
    ∃ out' T', Flow out' T' (a ++ [x]) ∧ ∀ s, pmR out false false T (runM x ++ s) = pmR out' false false T' s := by
  obtain ⟨h1, h2, h3⟩ := NF_snoc.1 hN
  have hx := rn_eq hc
  cases hi : x.i <;> cases hu : x.u
  · have hT : T = [] := by
      by_cases hT : T = []
      · exact hT
      · obtain ⟨k1, k2, k3, k4, k5⟩ := hF.l hT
        have := h3 k1
        rw [alk_same ⟨k2, k3⟩ hc (k4.trans hi.symm) (k5.trans hu.symm)] at this
        cases this
    subst hT
    refine ⟨out, x.t, ⟨?_, fun _ => ?_⟩, fun s => ?_⟩
    · have h4 := hF.n
      rw [norm_none] at h4
      rw [norm_snoc, h4]
      rw [hi, hu] at hx
      rw [← hx]; exact nstep_new hN
    · refine ⟨by simp, ?_⟩
      rw [lastR_snoc]; exact ⟨hc.1, hc.2, hi, hu⟩
    · unfold runM
      rw [hi, hu, if_neg (by simp), if_neg (by simp), pm_text _ _ _ _ _ _ hcl]; simp
  · rw [hi, hu] at hx
    refine ⟨out ++ [rnS T false false] ++ [x], [], ⟨?_, fun h => absurd rfl h⟩, fun s => ?_⟩
    · rw [norm_none, norm_snoc, hF.n]; exact nstep_new hN
    · unfold runM uT
      rw [hi, hu, if_neg (by simp), if_pos rfl, List.append_assoc, List.append_assoc, pm_u1, pm_text _ _ _ _ _ _ hcl, pm_u0, List.nil_append, ← hx]
  · rw [hi, hu] at hx
    refine ⟨out ++ [rnS T false false] ++ [x], [], ⟨?_, fun h => absurd rfl h⟩, fun s => ?_⟩
    · rw [norm_none, norm_snoc, hF.n]; exact nstep_new hN
    · unfold runM iT
      rw [hi, hu, if_pos rfl, if_neg (by simp), List.append_assoc, List.append_assoc, pm_i1, pm_text _ _ _ _ _ _ hcl, pm_i0, List.nil_append, ← hx]
  · rw [hi, hu] at hx
    refine ⟨out ++ [rnS T false false] ++ [rnS [] true false] ++ [x] ++ [rnS [] true false], [], ⟨?_, fun h => absurd rfl h⟩, fun s => ?_⟩
    · rw [norm_none, norm_none, norm_snoc, norm_none, hF.n]; exact nstep_new hN
    · unfold runM iT uT
      rw [hi, hu, if_pos rfl, if_pos rfl]
      rw [show [60, 105, 62] ++ ([60, 117, 62] ++ x.t ++ [60, 47, 117, 62]) ++ [60, 47, 105, 62] ++ s = [60, 105, 62] ++ ([60, 117, 62] ++ (x.t ++ ([60, 47, 117, 62] ++ ([60, 47, 105, 62] ++ s)))) by simp]
      rw [pm_i1, pm_u1, pm_text _ _ _ _ _ _ hcl, pm_u0, pm_i0, List.nil_append, ← hx]
theorem pm_runs : ∀ (C a out : Rw) (T : List UInt8), Flow out T a → NF (a ++ C) → Car C → (∀ x ∈ C, clean x.t) → normR (pmR out false false T (mkL C)) = a ++ C
  | [], a, out, T, hF, _, _, _ => by
    show normR (out ++ [rnS T false false]) = _
    rw [hF.n, List.append_nil]
  | x :: C, a, out, T, hF, hN, hc, hcl => by
    have e : a ++ x :: C = (a ++ [x]) ++ C := by simp
    rw [e] at hN ⊢
    obtain ⟨out', T', hF', hp⟩ := pm_run (C := C) hF (NF_pre hN) (hc x List.mem_cons_self) (hcl x List.mem_cons_self)
    show normR (pmR out false false T (runM x ++ mkL C)) = _
    rw [hp]
    exact pm_runs C _ out' T' hF' hN (fun y hy => hc y (List.mem_cons_of_mem _ hy)) (fun y hy => hcl y (List.mem_cons_of_mem _ hy))
theorem clean_run {L : Rw} (h : (plainR L).any tagB = false) : ∀ x ∈ L, clean x.t := by
  intro x hx b hb e
  subst e
  have h2 : (plainR L).any tagB = true := List.any_eq_true.2 ⟨60, List.mem_flatMap.2 ⟨x, hx, hb⟩, rfl⟩
  rw [h] at h2; cases h2
theorem pm_mkR {L : Rw} (h : markE L = 0) : pm (mkR L) = carR L := by
  obtain ⟨h1, h2⟩ := markE_zero h
  have h3 : (plainR (carR L)).any tagB = false := by rw [plain_carR]; exact h2
  have := pm_runs (carR L) [] [] [] ⟨rfl, fun h => absurd rfl h⟩ (by simpa using car_NF L) (car_Car L) (clean_run h3)
  rwa [List.nil_append] at this
end Go.Proofs.YtgiaohccebolpaaGreatDoor
