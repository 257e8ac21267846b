import Derived.Test.YtgiaohccebolpaaGreatDoorQ22
import Derived.Test.YtgiaohccebolpaaGreatDoorQ6
import Derived.Test.YtgiaohccebolpaaGreatDoorCards
import Derived.Test.YtgiaohccebolpaaGreatDoorTie
import Derived.ProofKit
import Derived.OpenShut
import Derived.Carry
import Derived.SizedLaws
import Derived.Lib.LaidU8T
import Derived.Lib.LaidTab
import Derived.Deep.DeepHandedRow
import Derived.Shelf.Vars
import Derived.SevenTiedAt
import Derived.Test.YtgiaohccebolpaaGreatDoorQ3
import Derived.Deep.Slices
import Derived.Test.YtgiaohccebolpaaGreatDoorQ12
namespace Go.Proofs.YtgiaohccebolpaaGreatDoor
open Go Go.RowKit
open Go.Lib hiding intOf
set_option linter.unusedVariables false
/-! ### the law -/
theorem few_fit {d : Dc} (h : d.fit) : (fewD d).fit :=
  ⟨h.title, h.lang, h.rate, fun r hr => h.regs r (List.mem_of_mem_take hr), Nat.le_trans (by show (d.regs.take 4).length ≤ d.regs.length; rw [List.length_take]; omega) h.regn,
    fun e he => h.evs e (List.mem_of_mem_take he), Nat.le_trans (by show (d.evs.take 4).length ≤ d.evs.length; rw [List.length_take]; omega) h.evn,
    fun c hc => h.cms c (List.mem_of_mem_take hc), Nat.le_trans (by show (d.cms.take 3).length ≤ d.cms.length; rw [List.length_take]; omega) h.cmn⟩
theorem few_len (d : Dc) : (fewD d).evs.length ≤ 4 := by show (d.evs.take 4).length ≤ 4; rw [List.length_take]; omega
theorem car_fit {L : Rw} (h : rowFit L) : rowFit (carR L) := by
  refine ⟨Nat.le_trans (carR_len L) h.n, by rw [carR_tot]; exact h.t, fun x hx => ⟨?_, ?_⟩⟩
  · have := tot_mem hx
    have := h.t
    rw [carR_tot] at *
    omega
  · rw [(car_Car L x hx).2]; simp
theorem red_fit {d : Dc} (h : d.fit) : (redD d).fit := by
  refine ⟨by simp [redD], by simp [redD], h.rate, fun r hr => (by cases hr), by simp [redD], ?_, by show (redL d.evs).length ≤ _; rw [redL_len]; exact h.evn, fun c hc => (by cases hc), by simp [redD]⟩
  intro e he
  obtain ⟨i, hi, rfl⟩ := List.getElem_of_mem (show e ∈ redL d.evs from he)
  have hi' : i < d.evs.length := by rw [redL_len] at hi; exact hi
  rw [← getD_of hi default]
  have e1 : (redL d.evs).getD i default = redE (i + 1) (d.evs.getD i default) := redN_get _ _ _ hi'
  rw [e1]
  have hf := h.evs _ (List.getElem_mem hi')
  rw [← getD_of hi' default] at hf
  refine ⟨by show 1 < 256; omega, by show ([] : List UInt8).length ≤ _; simp, ?_, fun x hx => ?_⟩
  · show ((d.evs.getD i default).rows.map carR).length ≤ _
    rw [List.length_map]; exact hf.n
  · obtain ⟨y, hy, rfl⟩ := List.mem_map.1 (show x ∈ (d.evs.getD i default).rows.map carR from hx)
    exact car_fit (hf.r y hy)
theorem rows4 {d : Dc} (h : chkE d = 0) : ∀ e ∈ d.evs, e.rows.length ≤ 4 := by
  obtain ⟨_, _, _, hev⟩ := chkE_acc h
  intro e he
  obtain ⟨i, hi, rfl⟩ := List.getElem_of_mem he
  have h1 := (hev i hi).1
  rw [getD_of hi] at h1
  obtain ⟨_, _, r, _, h2⟩ := evE_zero h1
  exact (evE2_zero h2).2.1
theorem twins {d : Dc} (hf : d.fit) (h : chkE d = 0) : ∀ i, i < (redD d).evs.length → TwinEv ((redD d).evs.getD i default) (d.evs.getD i default) := by
  intro i hi
  have hi' : i < d.evs.length := by
    have : (redD d).evs.length = d.evs.length := redL_len _
    omega
  have e1 : (redD d).evs.getD i default = redE (i + 1) (d.evs.getD i default) := redN_get _ _ _ hi'
  rw [e1]
  have hm : d.evs.getD i default ∈ d.evs := by rw [getD_of hi']; exact List.getElem_mem hi'
  have h4 := rows4 h _ hm
  have hr := (hf.evs _ hm).r
  refine ⟨rfl, rfl, evPlain_car _, by show ((d.evs.getD i default).rows.map carR).length ≤ 4; rw [List.length_map]; exact h4, h4, fun x hx => ?_, hr⟩
  obtain ⟨y, hy, rfl⟩ := List.mem_map.1 (show x ∈ (d.evs.getD i default).rows.map carR from hx)
  exact car_fit (hr y hy)
set_option maxHeartbeats 16000000 in
set_option maxRecDepth 100000 in
theorem law_any (v : Value) (d : Dc) (w : World) (hV : DocV w v d) (hf : d.fit) (hE : Env w) :
    Calls Tryz.prog 3 #[v] w fun e w' => e = .returned (.bool true) ∧ Below w.heap.size w w' := by
  have cF := fun w' => few_any v d w w' hV hf.evn hf.cmn hf.regn
  have hff := few_fit hf
  have hln := few_len d
  generalize hD : fewD d = D at *
  have cE := fun v' w' h hE => Encode_any v' D w' h hff hE
  obtain ⟨Z, hZ⟩ : ∃ Z, encE D = Z := ⟨_, rfl⟩
  obtain ⟨SS, hSS⟩ : ∃ SS, (if Z = 0 then ba (encS D) else (⟨#[]⟩ : ByteArray)) = SS := ⟨_, rfl⟩
  rw [hZ, hSS] at cE
  have HZ := Lib.hid hZ
  have HSS := Lib.hid hSS
  clear hZ hSS
  obtain ⟨vg, ve, vc, rfl, hG, hVe, hC⟩ := hV
  obtain ⟨ag, cg, rfl⟩ := RowR.len hG
  obtain ⟨a, c, rfl⟩ := hVe.len
  obtain ⟨ac, cc, rfl⟩ := RowR.len hC
  have h0 := heap_alloc_new w (.cells #[.string (ba d.title), .string (ba d.lang), .int .u8 (d.rate : Int), .bool d.drop, .int .i64 d.last, .slice ag d.regs.length cg, .slice a d.evs.length c, .slice ac d.cms.length cc] 27)
  have hb := below1 (.cells #[.string (ba d.title), .string (ba d.lang), .int .u8 (d.rate : Int), .bool d.drop, .int .i64 d.last, .slice ag d.regs.length cg, .slice a d.evs.length c, .slice ac d.cms.length cc] 27) (Nat.le_refl w.heap.size)
  have H0 := Lib.hid h0
  have HB := Lib.hid hb
  clear hG hVe hC h0 hb hf hD
  go_enter Tryz.func3, Tryz.ntmps3
  go_wp2_with fail
  refine (cF _).mono ?_
  rintro e w1 ⟨v1, rfl, hD1, hb1⟩
  have hD1' := hD1
  obtain ⟨vg1, ve1, vc1, rfl, hG, hVe, hC⟩ := hD1
  obtain ⟨ag1, cg1, rfl⟩ := RowR.len hG
  obtain ⟨a1, c1, rfl⟩ := hVe.len
  obtain ⟨ac1, cc1, rfl⟩ := RowR.len hC
  have HR0 := Lib.hid (blk_stay H0.out hb1)
  have HB1 := Lib.hid (below_grow HB.out HB.out.size hb1)
  have HD1 := Lib.hid hD1'
  clear hG hVe hC hD1' hb1 cF
  obtain ⟨d0, d1, d2, d3, d4, d5, d6, d7, df, dl⟩ := blk8 HR0.out
  go_wp2_with fail
  have hBW := below8 (x0 := .string (ba D.title)) (x1 := .string (ba D.lang)) (x2 := .int .u8 (D.rate : Int)) (x3 := .bool D.drop) (x4 := .int .i64 D.last) (x5 := .slice ag1 D.regs.length cg1) (x6 := .slice a1 D.evs.length c1) (x7 := .slice ac1 D.cms.length cc1) HB1.out (Nat.le_refl w.heap.size)
  have hX := set8 (x0 := .string (ba D.title)) (x1 := .string (ba D.lang)) (x2 := .int .u8 (D.rate : Int)) (x3 := .bool D.drop) (x4 := .int .i64 D.last) (x5 := .slice ag1 D.regs.length cg1) (x6 := .slice a1 D.evs.length c1) (x7 := .slice ac1 D.cms.length cc1) HR0.out
  have HBW := Lib.hid hBW
  have HX := Lib.hid hX
  clear hBW hX d0 d1 d2 d3 d4 d5 d6 d7 df dl HR0 H0 HB HB1
  refine (cE _ _ (HD1.out.below HBW.out) (hE.below HBW.out)).mono ?_
  rintro e w2 ⟨rfl, hb2⟩
  have HB2 := Lib.hid (below_grow HBW.out HBW.out.size hb2)
  have HX2 := Lib.hid (blk_stay HX.out hb2)
  clear hb2 HBW HX cE
  by_cases he : Z = 0
  case neg =>
    have hzz : (Z == 0) = false := by simpa using he
    have hss : SS = ⟨#[]⟩ := by rw [← HSS.out, if_neg he]
    subst hss
    clear he HZ HSS
    go_wp2_with fail
    go_ret
    exact ⟨rfl, HB2.out⟩
  subst he
  have hen := encE_zero HZ.out
  have hss : ba (encS D) = SS := by have := HSS.out; rwa [if_pos rfl] at this
  obtain ⟨hok, hdr, L, hj, h10, hlen, hL, hG, hio, hef⟩ := dec_ready hen (by omega)
  have cD := fun w' hE => decode_ok D.rate hff.rate hok D.drop hdr L (redL D.evs) w' h10 hlen hL hG (by rw [redL_len]; omega) hio hef hE
  rw [hj, redL_len, hss] at cD
  have hred : (⟨[], [], D.rate, D.drop, (D.evs.length : Int), [], redL D.evs, []⟩ : Dc) = redD D := rfl
  rw [hred] at cD
  have her := enc_red hen
  have cE2 := fun v' w' h hE => Encode_any v' (redD D) w' h (red_fit hff) hE
  rw [if_pos (encE_of her), encE_of her, encS_red, hss] at cE2
  have HEN := Lib.hid hen
  have HEF := Lib.hid hef
  clear hok hdr h10 hlen hL hG hio hj hen hss HZ HSS her hred hef
  obtain ⟨d0, d1, d2, d3, d4, d5, d6, d7, df, dl⟩ := blk8 HX2.out
  go_wp2_with fail
  refine (cD _ (hE.below HB2.out)).mono ?_
  rintro e w3 ⟨vd, rfl, hX, hb3⟩
  have hXd := hX
  obtain ⟨vg2, ve2, vc2, rfl, gG, gE, gC⟩ := hX
  obtain ⟨ag2, cg2, rfl⟩ := RowR.len gG
  obtain ⟨a2, c2, rfl⟩ := gE.len
  obtain ⟨ac2, cc2, rfl⟩ := RowR.len gC
  have HXD := Lib.hid hXd
  have HB3 := Lib.hid (below_grow HB2.out HB2.out.size hb3)
  have HX3 := Lib.hid (blk_stay HX2.out hb3)
  have hbx := below1 (.cells #[.string (ba (redD D).title), .string (ba (redD D).lang), .int .u8 ((redD D).rate : Int), .bool (redD D).drop, .int .i64 (redD D).last, .slice ag2 (redD D).regs.length cg2, .slice a2 (redD D).evs.length c2, .slice ac2 (redD D).cms.length cc2] 27) (Nat.le_refl w3.heap.size)
  have hx := heap_alloc_new w3 (.cells #[.string (ba (redD D).title), .string (ba (redD D).lang), .int .u8 ((redD D).rate : Int), .bool (redD D).drop, .int .i64 (redD D).last, .slice ag2 (redD D).regs.length cg2, .slice a2 (redD D).evs.length c2, .slice ac2 (redD D).cms.length cc2] 27)
  have HBX := Lib.hid hbx
  have HXX := Lib.hid hx
  clear hXd gG gE gC hb3 cD hbx hx HX2 d0 d1 d2 d3 d4 d5 d6 d7 df dl
  go_wp2_with fail
  refine (cE2 _ _ (HXD.out.below HBX.out) (hE.below (below_grow HB3.out HB3.out.size HBX.out))).mono ?_
  rintro e w4 ⟨rfl, hb4⟩
  have HXX4 := Lib.hid (blk_stay HXX.out hb4)
  have hbw4 := below_trans HBX.out hb4
  have HX4 := Lib.hid (blk_stay HX3.out hbw4)
  have HXD4 := Lib.hid (HXD.out.below hbw4)
  have HB4 := Lib.hid (below_grow HB3.out HB3.out.size hbw4)
  clear hb4 hbw4 cE2 HXX HX3 HXD HBX HB3
  go_wp2_with fail
  obtain ⟨d0, d1, d2, d3, d4, d5, d6, d7, df, dl⟩ := blk8 HX4.out
  obtain ⟨f0, f1, f2, f3, f4, f5, f6, f7, ff, fl⟩ := blk8 HXX4.out
  have HDD := Lib.hid (HD1.out.below HB4.out)
  have hE4 := hE.below HB4.out
  have hchk := HEN.out.chk
  have cR := fun v' w' h hE => reduce_ok v' D w' h hff hE hchk (by omega) (rows4 hchk)
  have cS := fun v1 v2 w' h1 h2 => same_any v1 v2 [] [] D.rate D.drop (D.evs.length : Int) (redL D.evs) w' h1 h2 (by rw [redL_len]; omega) HEF.out
  have cH := fun v1 v2 w' h1 h2 => house_any v1 v2 (redD D) D w' h1 h2 (redL_len D.evs) (by show (redL D.evs).length ≤ _; rw [redL_len]; omega) (twins hff hchk)
  have hbd : Below w4.heap.size w4 w4.drew := (Below.refl _ _).drew
  clear hchk df dl ff fl HX4 HXX4
  go_region_held3 (fun w' => w'.cell? ⟨w.heap.size, 0, none⟩ = some (.string (ba D.title)) ∧ w'.cell? ⟨w.heap.size, 1, none⟩ = some (.string (ba D.lang)) ∧ w'.cell? ⟨w.heap.size, 2, none⟩ = some (.int .u8 (D.rate : Int)) ∧ w'.cell? ⟨w.heap.size, 3, none⟩ = some (.bool D.drop) ∧ w'.cell? ⟨w.heap.size, 4, none⟩ = some (.int .i64 D.last) ∧ w'.cell? ⟨w.heap.size, 5, none⟩ = some (.slice ag1 D.regs.length cg1) ∧ w'.cell? ⟨w.heap.size, 6, none⟩ = some (.slice a1 D.evs.length c1) ∧ w'.cell? ⟨w.heap.size, 7, none⟩ = some (.slice ac1 D.cms.length cc1) ∧ w'.cell? ⟨w3.heap.size, 0, none⟩ = some (.string (ba (redD D).title)) ∧ w'.cell? ⟨w3.heap.size, 1, none⟩ = some (.string (ba (redD D).lang)) ∧ w'.cell? ⟨w3.heap.size, 2, none⟩ = some (.int .u8 ((redD D).rate : Int)) ∧ w'.cell? ⟨w3.heap.size, 3, none⟩ = some (.bool (redD D).drop) ∧ w'.cell? ⟨w3.heap.size, 4, none⟩ = some (.int .i64 (redD D).last) ∧ w'.cell? ⟨w3.heap.size, 5, none⟩ = some (.slice ag2 (redD D).regs.length cg2) ∧ w'.cell? ⟨w3.heap.size, 6, none⟩ = some (.slice a2 (redD D).evs.length c2) ∧ w'.cell? ⟨w3.heap.size, 7, none⟩ = some (.slice ac2 (redD D).cms.length cc2) ∧ Below w4.heap.size w4 w')
    (first | exact ⟨d0, d1, d2, d3, d4, d5, d6, d7, f0, f1, f2, f3, f4, f5, f6, f7, hbd⟩ | assumption | exact keepA16 (by assumption) hb5 | exact keepA16 (by assumption) hb6 | exact keepA16 (by assumption) hb7)
    (first | ((go_at_call 8; refine (cR _ _ (HDD.out.below (lastA16 (by assumption))) (hE4.below (lastA16 (by assumption)))).mono ?_; rintro e w5 ⟨v8, rfl, hD8, hb5⟩)) | ((go_at_call 7; refine (cS _ _ _ (HXD4.out.below (lastA16 (by assumption))) hD8).mono ?_; rintro e w6 ⟨rfl, hb6⟩)) | ((go_at_call 9; refine (cH _ _ _ (HXD4.out.below (lastA16 (by assumption))) (HDD.out.below (lastA16 (by assumption)))).mono ?_; rintro e w7 ⟨rfl, hb7⟩)))
  rename_i hH
  have HBf := lastA16 hH
  clear hH
  go_wp2_with fail
  go_ret
  exact ⟨rfl, below_grow HB4.out HB4.out.size HBf⟩
end Go.Proofs.YtgiaohccebolpaaGreatDoor
/- What the law owes at its end, what the laid variables give, and a world that holds them. -/
namespace Go.Proofs.YtgiaohccebolpaaGreatDoor
open Go.ChangeShapes Go.WideShapes Go.ChangeAt Go.RowKit Go.Lib Go.Shelf
set_option linter.unusedVariables false
section
variable {H : Type} {enc : TypeId × Value → H} {P : Program}
theorem args_stay (hl : laidOutB P = true) {W W' : World} (hb : Below W.heap.size W W') : ∀ {ts : List TypeId} {vs : List Value} {ds : List (DataW H)} {ps : List MemPlace}, (∀ t ∈ ts, P.readableRec t = true ∧ t < P.types.size) →
    DataW.TrodAll enc P W 0 (fun _ => true) true ts vs ds ps → (∀ x ∈ ps, x.block < W.heap.size) → DataW.TrodAll enc P W' 0 (fun b => decide (b < W.heap.size)) true ts vs ds ps
  | [], [], [], ps, _, h, _ => h
  | t :: ts, v :: vs, d :: ds, ps, hr, ⟨p, q, h1, h2, e⟩, hs =>
    ⟨p, q, Below.trod hl (hr t (by simp)).1 (hr t (by simp)).2 h1 hb (fun x hx => hs x (by rw [e]; exact List.mem_append_left _ hx)),
      args_stay hl hb (fun y hy => hr y (by simp [hy])) h2 (fun x hx => hs x (by rw [e]; exact List.mem_append_right _ hx)), e⟩
/-- What a law owes at its end: it answered true, and what was there before is as it was. -/
theorem law_post {f : Func} {s : ChangeSpec} {apart handsOn : Bool} {W W' : World} {args : Array Value} {ds : List (DataW H)} {before : List MemPlace} {tb : TypeId}
    (hv : s.vars = []) (hl : laidOutB P = true) (hr : ∀ t ∈ f.params.toList, P.readableRec t = true ∧ t < P.types.size) (hrt : f.resultTypes = #[tb]) (htb : P.underlying tb = some .bool)
    (hW : DataW.Whole enc P f.params.toList s.vars apart W args.toList ds [] before) (hb : Below W.heap.size W W')
    (h1 : (s.fn H (ds ++ [])).results = [.lit (.bool true)]) (h2 : (s.fn H (ds ++ [])).args = ds) (h3 : (s.fn H (ds ++ [])).vars = []) : s.post enc P f apart true handsOn false W args (.bool true) W' := by
  have hlt := hW.lt
  have hW2 := hW
  obtain ⟨p, q, hA, hV, rfl, _, _⟩ := hW2
  refine ⟨ds, [], p ++ q, [], p, [], hW, ?_, ?_, ?_, ?_, fun h => by cases h⟩
  · rw [h1, hrt]
    exact ⟨[], [], shut_bool htb true, rfl, rfl⟩
  · rw [h2]
    exact args_stay hl hb hr hA (fun x hx => hlt x (List.mem_append_left _ hx))
  · rw [h3, hv]; exact rfl
  · exact hb.frame _
end
theorem own : ownKnob Tryz.prog.godebug = none := by kernel_rfl
theorem laidOut : laidOutB Tryz.prog = true := by kernel_rfl
theorem read27 : Tryz.prog.readableRec 27 = true ∧ 27 < Tryz.prog.types.size := ⟨by kernel_rfl, of_decide_eq_true (by kernel_rfl)⟩
theorem u8extra : U8Extra Tryz.prog Tryz.lays196_ren := ⟨by kernel_rfl, by kernel_rfl, by kernel_rfl, by kernel_rfl, by kernel_rfl, by kernel_rfl, by kernel_rfl⟩
theorem accept_eq : Rows.laid_unicode_utf8_acceptRanges (H := Unit) = Lib.acceptData := by kernel_rfl
theorem first_eq : Rows.laid_unicode_utf8_first = Lib.firstData := by kernel_rfl
theorem pow_eq : Rows.laid_internal_strconv_uint64pow10 (H := Unit) = Lib.tabData .u64 Lib.pow10Tab := by kernel_rfl
theorem cells171 : Tryz.prog.cellsOf 171 = 1 := by kernel_rfl
theorem cells200 : Tryz.prog.cellsOf 200 = 20 := by kernel_rfl
/-- The variables that the row lists, and the machine's limit. -/
theorem env_of {W : World} (h : laidMet Tryz.prog Rows.topCarriedTextUptoRow.laid W) (hs : W.ShapedOpen Tryz.prog) : Env W := by
  have r1 := Lib.laidMet.reads h (n := "unicode/utf8.acceptRanges") (d := Rows.laid_unicode_utf8_acceptRanges) (by simp [Rows.topCarriedTextUptoRow])
  have r2 := Lib.laidMet.reads h (n := "unicode/utf8.first") (d := Rows.laid_unicode_utf8_first) (by simp [Rows.topCarriedTextUptoRow])
  have r3 := Lib.laidMet.reads h (n := "internal/strconv.uint64pow10") (d := Rows.laid_internal_strconv_uint64pow10) (by simp [Rows.topCarriedTextUptoRow])
  rw [accept_eq] at r1
  rw [first_eq] at r2
  rw [pow_eq] at r3
  refine ⟨utf8Tabs_of_readsT (U8Types.of196 Tryz.lays196) u8extra r2 r1,
    cell_of_shapedOpen_int (P := Tryz.prog) (g := 0) (t := 3) (zero := #[.int .i64 0]) hs (of_decide_eq_true (by kernel_rfl)) (by kernel_rfl) rfl (by kernel_rfl) (by kernel_rfl) Tryz.underlying3, ?_⟩
  obtain ⟨g, t, cs, fuel, p, hg, hty, hvar, hd⟩ := r3
  obtain rfl := Option.some.inj ((show Tryz.prog.globalNamed "internal/strconv.uint64pow10" = some 3 by kernel_rfl).symm.trans hg)
  obtain rfl := Option.some.inj ((show (Tryz.prog.globals[3]?).map (·.type) = some 200 by kernel_rfl).symm.trans hty)
  unfold Lib.TabIs
  rw [hvar, ← Lib.cells_of_tab Tryz.underlying200 Tryz.underlying171 cells171 cells200 hd]
/-- A world for the witness: the five tables hold what their initialisers lay. -/
noncomputable def laidWorld (os : Os) : World :=
  let w0 := World.holding Tryz.prog os ⟨#[], #[], []⟩
  let put (h : Array Obj) (g : Nat) (cs : Array Value) : Array Obj := h.modify g fun
    | .cells _ t frozen => .cells cs t frozen
    | o => o
  let nums (k : IntKind) (d : DataW Unit) : Array Value := match d with
    | .agg l => (l.map fun | .lit (.int _ z) => Value.int k z | _ => Value.int k 0).toArray
    | _ => #[]
  let h1 := put w0.heap 1 (Lib.firstTab.map fun z => Value.int .u8 z).toArray
  let h2 := put h1 2 ((List.range 16).flatMap fun i => [Value.int .u8 (Lib.accLo i), Value.int .u8 (Lib.accHi i)]).toArray
  let h3 := put h2 3 (Lib.pow10Tab.map fun z => Value.int .u64 z).toArray
  let h4 := put h3 4 (nums .u8 Rows.laid_math_bits_deBruijn32tab)
  let h5 := put h4 5 (nums .u8 Rows.laid_math_bits_deBruijn64tab)
  { w0 with heap := h5 }
set_option maxRecDepth 100000 in
theorem met5 (os : Os) (args : Array Value) : laidMet Tryz.prog Rows.topCarriedTextUptoRow.laid ((laidWorld os).forCall (fun _ _ => 0) ⟨#[], args, []⟩).memory :=
  laidMet_of_run' 10 (by kernel_rfl) (by kernel_rfl)
theorem vars5 (os : Os) (args : Array Value) : ((laidWorld os).forCall (fun _ _ => 0) ⟨#[], args, []⟩).variablesB Tryz.prog = true := by kernel_rfl
theorem rest5 (os : Os) (args : Array Value) : (((laidWorld os).forCall (fun _ _ => 0) ⟨#[], args, []⟩).heap.toList.drop Tryz.prog.globals.size).take ((begin Tryz.prog (fun _ _ => 0) default).world.heap.size - Tryz.prog.globals.size) =
      (begin Tryz.prog (fun _ _ => 0) default).world.heap.toList.drop Tryz.prog.globals.size := by kernel_rfl
end Go.Proofs.YtgiaohccebolpaaGreatDoor
/- A document that comes in by value, opened: what its places hold, and how great its texts can be. -/
namespace Go.Proofs.YtgiaohccebolpaaGreatDoor
open Go.ChangeShapes Go.WideShapes Go.ChangeAt Go.RowKit
open Go.Lib hiding intOf
set_option linter.unusedVariables false
theorem one_le {H : Type} (d : DataW H) : 1 ≤ Rows.uptoBulk d := by
  cases d with
  | lit l => cases l <;> simp [Rows.uptoBulk]
  | nil => simp [Rows.uptoBulk]
  | ptr d => simp [Rows.uptoBulk]
  | slice elems spare => simp [Rows.uptoBulk]
  | agg parts => simp [Rows.uptoBulk]
  | iface t d => simp [Rows.uptoBulk]
  | map entries => simp [Rows.uptoBulk]
  | held h => simp [Rows.uptoBulk]
theorem byte_in {k : Int} (h : (Lit.int .u8 k).wf = true) : ∃ n : Nat, k = n ∧ n < 256 := by
  have h2 : (decide (0 ≤ k) && decide (k ≤ 255)) = true := h
  rw [Bool.and_eq_true, decide_eq_true_eq, decide_eq_true_eq] at h2
  exact ⟨k.toNat, by omega, by omega⟩
theorem spot_of {w : World} {a : Addr} {v : Value} (h : w.cell? a = some v) : ∃ b o, a = ⟨b, o, none⟩ := by
  obtain ⟨b, o, sp⟩ := a
  cases sp with
  | none => exact ⟨b, o, rfl⟩
  | some s =>
    exfalso
    unfold World.cell? at h
    simp only [Option.isSome_some, if_true] at h
    split at h <;> cases h
section
variable {H : Type} {enc : TypeId × Value → H} {W : World} {base : Nat} {spare : Nat → Bool} {held : Bool}
theorem trodB {t : TypeId} {n : Nat} {cs : List Value} {x : DataW H × List MemPlace} (ht : Tryz.prog.underlying t = some .string) (h : DataW.trod enc Tryz.prog W base spare held n t cs = some x) :
    ∃ l : List UInt8, cs = [.string (ba l)] ∧ Rows.uptoBulk x.1 = l.length + 1 := by
  obtain ⟨s, e, ex, _⟩ := DataW.trod_string ht h
  exact ⟨s.data.toList, by rw [e]; rfl, by rw [ex]; simp [Rows.uptoBulk]⟩
theorem trodU {t : TypeId} {n : Nat} {cs : List Value} {x : DataW H × List MemPlace} (ht : Tryz.prog.underlying t = some (.int .u8)) (h : DataW.trod enc Tryz.prog W base spare held n t cs = some x) :
    ∃ k : Nat, cs = [.int .u8 (k : Int)] ∧ k < 256 := by
  obtain ⟨z, e, _, hw⟩ := DataW.trod_int ht h
  obtain ⟨k, rfl, hk⟩ := byte_in hw
  exact ⟨k, e, hk⟩
theorem trodI {t : TypeId} {n : Nat} {cs : List Value} {x : DataW H × List MemPlace} (ht : Tryz.prog.underlying t = some (.int .i64)) (h : DataW.trod enc Tryz.prog W base spare held n t cs = some x) :
    ∃ z : Int, cs = [.int .i64 z] ∧ (Lit.int .i64 z).wf = true := by
  obtain ⟨z, e, _, hw⟩ := DataW.trod_int ht h
  exact ⟨z, e, hw⟩
theorem trodL {t : TypeId} {n : Nat} {cs : List Value} {x : DataW H × List MemPlace} (ht : Tryz.prog.underlying t = some .bool) (h : DataW.trod enc Tryz.prog W base spare held n t cs = some x) :
    ∃ b : Bool, cs = [.bool b] := by
  obtain ⟨b, e, _⟩ := DataW.trod_bool ht h
  exact ⟨b, e⟩
theorem bulk_map {α : Type} (bk : α → Nat) (f : Nat → α) (D : Nat → DataW H) : ∀ l : List Nat, (∀ i ∈ l, bk (f i) + 1 ≤ Rows.uptoBulk (D i)) → ((l.map f).map bk).sum + l.length ≤ Rows.uptoBulkAll (l.map D)
  | [], _ => by simp
  | i :: l, h => by
    have h1 := h i (by simp)
    have h2 := bulk_map bk f D l (fun j hj => h j (by simp [hj]))
    simp only [List.map_cons, List.sum_cons, List.length_cons, Rows.uptoBulkAll] at h2 ⊢
    omega
theorem le_sum {α : Type} (bk : α → Nat) : ∀ (l : List α) (x : α), x ∈ l → bk x ≤ (l.map bk).sum
  | y :: l, x, h => by
    simp only [List.map_cons, List.sum_cons]
    rcases List.mem_cons.1 h with rfl | h
    · omega
    · have := le_sum bk l x h; omega
/-- A slice, opened. -/
theorem open_row {α : Type} [Inhabited α] (k : Nat) (hk0 : 0 < k) {t e : TypeId} (ht : Tryz.prog.underlying t = some (.slice e)) (hk : Tryz.prog.cellsOf e = k) (cells : α → List Value) (hc : ∀ y, (cells y).length = k) (Q : α → Prop) (bk : α → Nat)
    (each : ∀ (n : Nat) (cs : List Value) (y : DataW H × List MemPlace), cs.length = k → DataW.trod enc Tryz.prog W base spare held n e cs = some y → ∃ q : α, cs = cells q ∧ Q q ∧ bk q + 1 ≤ Rows.uptoBulk y.1)
    {fuel : Nat} {cs : List Value} {x : DataW H × List MemPlace} (hsp : ∀ b, spare b = true) (h : DataW.trod enc Tryz.prog W base spare held fuel t cs = some x) :
    ∃ v, ∃ L : List α, cs = [v] ∧ RowR W k v L.length (encL cells L) ∧ (∀ q ∈ L, Q q) ∧ (L.map bk).sum + L.length + 1 ≤ Rows.uptoBulk x.1 := by
  rcases Go.Deep.open_slice ht h with ⟨rfl, rfl⟩ | ⟨a, ln, cp, m, n, D, Pl, rfl, hb, hl, hm, hmm, hx, hi⟩
  · exact ⟨_, [], rfl, ⟨by simp [encL], Or.inl ⟨rfl, rfl⟩⟩, (fun _ h => by cases h), by simp [Rows.uptoBulk]⟩
  · rw [if_pos (hsp _)] at hmm
    subst hmm
    have each2 : ∀ i, i < m → ∃ q : α, Q q ∧ bk q + 1 ≤ Rows.uptoBulk (D i) ∧ ∀ j, j < k → W.cell? ((a.add (i * k)).add j) = (cells q)[j]? := by
      intro i him
      obtain ⟨cs', h1, h2⟩ := hi i him
      rw [hk] at h1
      obtain ⟨_, hlen, hcell⟩ := World.cells?_some h1
      obtain ⟨q, rfl, hQ, hB⟩ := each n cs' _ hlen h2
      exact ⟨q, hQ, hB, hcell⟩
    obtain ⟨f, hf⟩ := Go.Deep.choose_lt each2
    have hll : ((List.range ln).map f).length = ln := by simp
    refine ⟨_, (List.range ln).map f, rfl, ?_, ?_, ?_⟩
    · refine ⟨encL_len hc _, ?_⟩
      rw [hll]
      rcases Nat.eq_zero_or_pos m with h0 | h0
      · left
        obtain rfl : ln = 0 := by omega
        obtain rfl := h0
        exact ⟨rfl, rfl⟩
      right
      obtain ⟨v0, hv0⟩ : ∃ v0, W.cell? a = some v0 := by
        have h1 := (hf 0 h0).2.2 0 hk0
        rw [List.getElem?_eq_getElem (by rw [hc]; exact hk0)] at h1
        exact ⟨_, by simpa [Addr.add] using h1⟩
      obtain ⟨b, o, rfl⟩ := spot_of hv0
      refine ⟨b, o, m, rfl, cell_lt hv0, hl, fun j u hu => ?_⟩
      have hj : j < ln * k := by
        rcases Nat.lt_or_ge j (ln * k) with h | h
        · exact h
        · rw [List.getElem?_eq_none (by rw [encL_len hc, hll]; exact h)] at hu; cases hu
      have hjk : j / k < ln := by rw [Nat.div_lt_iff_lt_mul hk0]; exact hj
      have hjm : j % k < k := Nat.mod_lt _ hk0
      have hjj : j / k * k + j % k = j := by rw [Nat.mul_comm]; exact Nat.div_add_mod j k
      have h1 := (hf (j / k) (by omega)).2.2 (j % k) hjm
      rw [Go.Deep.add_add, add_addr, hjj] at h1
      have h2 := encL_get hc ((List.range ln).map f) (j / k) (by rw [hll]; exact hjk) (j % k) hjm
      rw [hjj] at h2
      rw [h1, ← hu, h2]
      simp
    · intro q hq
      obtain ⟨i, hi', rfl⟩ := List.mem_map.1 hq
      exact (hf i (by have := List.mem_range.1 hi'; omega)).1
    · have h1 := bulk_map bk f D (List.range ln) (fun i hi' => (hf i (by have := List.mem_range.1 hi'; omega)).2.1)
      rw [hx]
      simp only [Rows.uptoBulk]
      rw [hll]
      rw [List.length_range] at h1
      omega
end
end Go.Proofs.YtgiaohccebolpaaGreatDoor
/- A document that comes in by value, opened, field by field. -/
namespace Go.Proofs.YtgiaohccebolpaaGreatDoor
open Go.ChangeShapes Go.WideShapes Go.ChangeAt Go.RowKit
open Go.Lib hiding intOf
set_option linter.unusedVariables false
theorem cell2 : Tryz.prog.cellsOf 2 = 1 := by kernel_rfl
theorem cell3 : Tryz.prog.cellsOf 3 = 1 := by kernel_rfl
theorem cell4 : Tryz.prog.cellsOf 4 = 1 := by kernel_rfl
theorem cell9 : Tryz.prog.cellsOf 9 = 1 := by kernel_rfl
theorem cell22 : Tryz.prog.cellsOf 22 = 1 := by kernel_rfl
theorem cell23 : Tryz.prog.cellsOf 23 = 1 := by kernel_rfl
theorem cell24 : Tryz.prog.cellsOf 24 = 1 := by kernel_rfl
theorem cell25 : Tryz.prog.cellsOf 25 = 1 := by kernel_rfl
theorem cell27 : Tryz.prog.cellsOf 27 = 8 := by kernel_rfl
theorem cell54 : Tryz.prog.cellsOf 54 = 1 := by kernel_rfl
theorem cell56 : Tryz.prog.cellsOf 56 = 7 := by kernel_rfl
theorem cell59 : Tryz.prog.cellsOf 59 = 2 := by kernel_rfl
theorem cell60 : Tryz.prog.cellsOf 60 = 1 := by kernel_rfl
theorem cell61 : Tryz.prog.cellsOf 61 = 1 := by kernel_rfl
theorem cell63 : Tryz.prog.cellsOf 63 = 7 := by kernel_rfl
theorem cell67 : Tryz.prog.cellsOf 67 = 8 := by kernel_rfl
theorem cell69 : Tryz.prog.cellsOf 69 = 1 := by kernel_rfl
theorem cell71 : Tryz.prog.cellsOf 71 = 1 := by kernel_rfl
theorem cell107 : Tryz.prog.cellsOf 107 = 1 := by kernel_rfl
theorem cell109 : Tryz.prog.cellsOf 109 = 3 := by kernel_rfl
theorem cell111 : Tryz.prog.cellsOf 111 = 5 := by kernel_rfl
instance : Inhabited (Rw × Value) := ⟨([], .bool false)⟩
instance : Inhabited (Ev × Value) := ⟨(default, .bool false)⟩
def bkN (r : Rn) : Nat := r.t.length + r.r.length
def bkW (l : Rw) : Nat := (l.map bkN).sum + l.length
def bkR (L : List Rw) : Nat := (L.map bkW).sum + L.length
def bkV (e : Ev) : Nat := e.spk.length + bkR e.rows
def bkC (c : Cm) : Nat := c.au.length + c.tx.length
theorem tot_le : ∀ l : Rw, tot l ≤ (l.map bkN).sum
  | [] => Nat.le_refl _
  | x :: l => by
    have := tot_le l
    simp only [tot, List.map_cons, List.sum_cons, bkN] at this ⊢
    omega
theorem rowFit_of {l : Rw} (h : bkW l ≤ 1048576) : rowFit l := by
  have h1 := tot_le l
  unfold bkW at h
  refine ⟨by omega, by omega, fun x hx => ?_⟩
  have h2 := le_sum bkN l x hx
  have h3 : bkN x = x.t.length + x.r.length := rfl
  exact ⟨by omega, by omega⟩
theorem evFit_of {e : Ev} (hk : e.kind < 256) (h : bkV e ≤ 1048576) : evFit e := by
  unfold bkV bkR at h
  refine ⟨hk, by omega, by omega, fun x hx => rowFit_of ?_⟩
  have h2 := le_sum bkW e.rows x hx
  omega
section
variable {H : Type} {enc : TypeId × Value → H} {W : World} {base : Nat} {spare : Nat → Bool} {held : Bool}
set_option maxRecDepth 100000 in
theorem open_run (n : Nat) (cs : List Value) (y : DataW H × List MemPlace) (hl : cs.length = 5) (h : DataW.trod enc Tryz.prog W base spare held n 111 cs = some y) : ∃ r : Rn, cs = r.cells ∧ True ∧ bkN r + 1 ≤ Rows.uptoBulk y.1 := by
  obtain ⟨xs, m, _, rfl, _, hlen, hf⟩ := DataW.trod_struct Tryz.underlying111 h
  match cs, hl, xs, hlen with
  | [v0, v1, v2, v3, v4], _, [y0, y1, y2], _ =>
    have h0 := hf 0 _ rfl
    have h1 := hf 1 _ rfl
    have h2 := hf 2 _ rfl
    simp only [cell9, cell109, List.getElem_toArray, List.getElem_cons_zero, List.getElem_cons_succ, List.drop_zero, List.drop_succ_cons, List.take_succ_cons, List.take_zero, List.getElem?_cons_zero, List.getElem?_cons_succ] at h0 h1 h2
    clear hf
    obtain ⟨t, e0, b0⟩ := trodB Tryz.underlying9 h0
    obtain ⟨r, e4, b4⟩ := trodB Tryz.underlying9 h2
    obtain ⟨xs', m', _, ex, _, hlen', hf'⟩ := DataW.trod_struct Tryz.underlying109 h1
    match xs', hlen' with
    | [z0, z1, z2], _ =>
      have g0 := hf' 0 _ rfl
      have g1 := hf' 1 _ rfl
      have g2 := hf' 2 _ rfl
      simp only [cell107, cell4, List.getElem_toArray, List.getElem_cons_zero, List.getElem_cons_succ, List.drop_zero, List.drop_succ_cons, List.take_succ_cons, List.take_zero, List.getElem?_cons_zero, List.getElem?_cons_succ] at g0 g1 g2
      obtain ⟨c, e1, hc⟩ := trodU Tryz.underlying107 g0
      obtain ⟨i, e2⟩ := trodL Tryz.underlying4 g1
      obtain ⟨u, e3⟩ := trodL Tryz.underlying4 g2
      simp only [List.cons.injEq, and_true] at e0 e1 e2 e3 e4
      subst e0 e1 e2 e3 e4
      refine ⟨⟨t, c, i, u, r⟩, rfl, trivial, ?_⟩
      have h5 := one_le y1.1
      simp only [Rows.uptoBulk, Rows.uptoBulkAll, List.map_cons, List.map_nil, bkN]
      omega
set_option maxRecDepth 100000 in
theorem open_rw (hsp : ∀ b, spare b = true) (n : Nat) (cs : List Value) (y : DataW H × List MemPlace) (hl : cs.length = 1) (h : DataW.trod enc Tryz.prog W base spare held n 71 cs = some y) :
    ∃ q : Rw × Value, cs = [q.2] ∧ RunsR W q.2 q.1 ∧ bkW q.1 + 1 ≤ Rows.uptoBulk y.1 := by
  obtain ⟨xs, m, _, rfl, _, hlen, hf⟩ := DataW.trod_struct Tryz.underlying71 h
  match cs, hl, xs, hlen with
  | [v0], _, [y0], _ =>
    have h0 := hf 0 _ rfl
    simp only [cell69, List.getElem_toArray, List.getElem_cons_zero, List.drop_zero, List.take_succ_cons, List.take_zero, List.getElem?_cons_zero] at h0
    obtain ⟨v, L, e, hR, _, hB⟩ := open_row 5 (by decide) Tryz.underlying69 cell111 Rn.cells Rn.cells_len (fun _ => True) bkN open_run hsp h0
    simp only [List.cons.injEq, and_true] at e
    subst e
    refine ⟨(L, v0), rfl, hR, ?_⟩
    simp only [Rows.uptoBulk, Rows.uptoBulkAll, List.map_cons, List.map_nil, bkW]
    omega
theorem enc_one {α : Type} : ∀ L : List (α × Value), encL (fun q => [q.2]) L = L.map (·.2)
  | [] => rfl
  | x :: L => by
    have := enc_one L
    unfold encL at this ⊢
    rw [List.flatMap_cons, this]; rfl
theorem open_rows (hsp : ∀ b, spare b = true) {n : Nat} {cs : List Value} {y : DataW H × List MemPlace} (h : DataW.trod enc Tryz.prog W base spare held n 61 cs = some y) :
    ∃ v, ∃ L : List Rw, cs = [v] ∧ RowsR W v L ∧ bkR L + 1 ≤ Rows.uptoBulk y.1 := by
  obtain ⟨v, L, e, hR, hQ, hB⟩ := open_row 1 (by decide) Tryz.underlying61 cell71 (fun q : Rw × Value => [q.2]) (fun _ => rfl) (fun q => RunsR W q.2 q.1) (fun q => bkW q.1) (open_rw hsp) hsp h
  refine ⟨v, L.map (·.1), e, ⟨L.map (·.2), by rw [enc_one] at hR; rw [List.length_map]; exact hR, fun i hi => ?_⟩, ?_⟩
  · rw [List.length_map] at hi
    refine ⟨(L[i]).2, by simp [hi], ?_⟩
    have e2 : (L.map (·.1)).getD i [] = (L[i]).1 := by rw [getD_of (by simpa using hi)]; simp
    rw [e2]
    exact hQ _ (List.getElem_mem hi)
  · unfold bkR
    rw [List.map_map, List.length_map]
    exact hB
set_option maxRecDepth 100000 in
theorem open_ev (hsp : ∀ b, spare b = true) (n : Nat) (cs : List Value) (y : DataW H × List MemPlace) (hl : cs.length = 7) (h : DataW.trod enc Tryz.prog W base spare held n 63 cs = some y) :
    ∃ q : Ev × Value, cs = evCells q.1 q.2 ∧ (RowsR W q.2 q.1.rows ∧ q.1.kind < 256) ∧ bkV q.1 + 1 ≤ Rows.uptoBulk y.1 := by
  obtain ⟨xs, m, _, rfl, _, hlen, hf⟩ := DataW.trod_struct Tryz.underlying63 h
  match cs, hl, xs, hlen with
  | [v0, v1, v2, v3, v4, v5, v6], _, [y0, y1, y2, y3, y4, y5], _ =>
    have h0 := hf 0 _ rfl
    have h1 := hf 1 _ rfl
    have h2 := hf 2 _ rfl
    have h3 := hf 3 _ rfl
    have h4 := hf 4 _ rfl
    have h5 := hf 5 _ rfl
    simp only [cell2, cell59, cell9, cell60, cell61, List.getElem_toArray, List.getElem_cons_zero, List.getElem_cons_succ, List.drop_zero, List.drop_succ_cons, List.take_succ_cons, List.take_zero, List.getElem?_cons_zero, List.getElem?_cons_succ] at h0 h1 h2 h3 h4 h5
    clear hf
    obtain ⟨id, e0, _⟩ := trodI Tryz.underlying2 h0
    obtain ⟨reg, e3, _⟩ := trodB Tryz.underlying9 h2
    obtain ⟨kind, e4, hk⟩ := trodU Tryz.underlying60 h3
    obtain ⟨spk, e5, b5⟩ := trodB Tryz.underlying9 h4
    obtain ⟨vr, rows, e6, hR, b6⟩ := open_rows hsp h5
    obtain ⟨xs', m', _, ex, _, hlen', hf'⟩ := DataW.trod_struct Tryz.underlying59 h1
    match xs', hlen' with
    | [z0, z1], _ =>
      have g0 := hf' 0 _ rfl
      have g1 := hf' 1 _ rfl
      simp only [cell2, List.getElem_toArray, List.getElem_cons_zero, List.getElem_cons_succ, List.drop_zero, List.drop_succ_cons, List.take_succ_cons, List.take_zero, List.getElem?_cons_zero, List.getElem?_cons_succ] at g0 g1
      obtain ⟨inn, e1, _⟩ := trodI Tryz.underlying2 g0
      obtain ⟨out, e2, _⟩ := trodI Tryz.underlying2 g1
      simp only [List.cons.injEq, and_true] at e0 e1 e2 e3 e4 e5 e6
      subst e0 e1 e2 e3 e4 e5 e6
      refine ⟨(⟨id, inn, out, reg, kind, spk, rows⟩, v6), rfl, ⟨hR, hk⟩, ?_⟩
      simp only [Rows.uptoBulk, Rows.uptoBulkAll, List.map_cons, List.map_nil, bkV]
      omega
set_option maxRecDepth 100000 in
theorem open_rg (n : Nat) (cs : List Value) (y : DataW H × List MemPlace) (hl : cs.length = 7) (h : DataW.trod enc Tryz.prog W base spare held n 56 cs = some y) :
    ∃ q : Rg, cs = q.cells ∧ q.al < 256 ∧ q.nm.size + 1 ≤ Rows.uptoBulk y.1 := by
  obtain ⟨xs, m, _, rfl, _, hlen, hf⟩ := DataW.trod_struct Tryz.underlying56 h
  match cs, hl, xs, hlen with
  | [v0, v1, v2, v3, v4, v5, v6], _, [y0, y1, y2, y3, y4, y5, y6], _ =>
    have h0 := hf 0 _ rfl
    have h1 := hf 1 _ rfl
    have h2 := hf 2 _ rfl
    have h3 := hf 3 _ rfl
    have h4 := hf 4 _ rfl
    have h5 := hf 5 _ rfl
    have h6 := hf 6 _ rfl
    simp only [cell3, cell4, cell9, cell54, List.getElem_toArray, List.getElem_cons_zero, List.getElem_cons_succ, List.drop_zero, List.drop_succ_cons, List.take_succ_cons, List.take_zero, List.getElem?_cons_zero, List.getElem?_cons_succ] at h0 h1 h2 h3 h4 h5 h6
    clear hf
    obtain ⟨nm, e0, b0⟩ := trodB Tryz.underlying9 h0
    obtain ⟨top, e1, _⟩ := trodI Tryz.underlying3 h1
    obtain ⟨ht, e2, _⟩ := trodI Tryz.underlying3 h2
    obtain ⟨lf, e3, _⟩ := trodI Tryz.underlying3 h3
    obtain ⟨wd, e4, _⟩ := trodI Tryz.underlying3 h4
    obtain ⟨al, e5, hk⟩ := trodU Tryz.underlying54 h5
    obtain ⟨bot, e6⟩ := trodL Tryz.underlying4 h6
    simp only [List.cons.injEq, and_true] at e0 e1 e2 e3 e4 e5 e6
    subst e0 e1 e2 e3 e4 e5 e6
    refine ⟨⟨ba nm, top, ht, lf, wd, al, bot⟩, rfl, hk, ?_⟩
    simp only [Rows.uptoBulk, Rows.uptoBulkAll, List.map_cons, List.map_nil, ba_size]
    omega
set_option maxRecDepth 100000 in
theorem open_cm (n : Nat) (cs : List Value) (y : DataW H × List MemPlace) (hl : cs.length = 8) (h : DataW.trod enc Tryz.prog W base spare held n 67 cs = some y) :
    ∃ q : Cm, cs = q.cells ∧ (Lit.int .i64 q.id).wf = true ∧ bkC q + 1 ≤ Rows.uptoBulk y.1 := by
  obtain ⟨xs, m, _, rfl, _, hlen, hf⟩ := DataW.trod_struct Tryz.underlying67 h
  match cs, hl, xs, hlen with
  | [v0, v1, v2, v3, v4, v5, v6, v7], _, [y0, y1, y2, y3, y4, y5, y6, y7], _ =>
    have h0 := hf 0 _ rfl
    have h1 := hf 1 _ rfl
    have h2 := hf 2 _ rfl
    have h3 := hf 3 _ rfl
    have h4 := hf 4 _ rfl
    have h5 := hf 5 _ rfl
    have h6 := hf 6 _ rfl
    have h7 := hf 7 _ rfl
    simp only [cell2, cell3, cell4, cell9, List.getElem_toArray, List.getElem_cons_zero, List.getElem_cons_succ, List.drop_zero, List.drop_succ_cons, List.take_succ_cons, List.take_zero, List.getElem?_cons_zero, List.getElem?_cons_succ] at h0 h1 h2 h3 h4 h5 h6 h7
    clear hf
    obtain ⟨id, e0, hw⟩ := trodI Tryz.underlying2 h0
    obtain ⟨ev, e1, _⟩ := trodI Tryz.underlying2 h1
    obtain ⟨fr, e2, _⟩ := trodI Tryz.underlying3 h2
    obtain ⟨too, e3, _⟩ := trodI Tryz.underlying3 h3
    obtain ⟨au, e4, b4⟩ := trodB Tryz.underlying9 h4
    obtain ⟨tx, e5, b5⟩ := trodB Tryz.underlying9 h5
    obtain ⟨dn, e6⟩ := trodL Tryz.underlying4 h6
    obtain ⟨lo, e7⟩ := trodL Tryz.underlying4 h7
    simp only [List.cons.injEq, and_true] at e0 e1 e2 e3 e4 e5 e6 e7
    subst e0 e1 e2 e3 e4 e5 e6 e7
    refine ⟨⟨id, ev, fr, too, au, tx, dn, lo⟩, rfl, hw, ?_⟩
    simp only [Rows.uptoBulk, Rows.uptoBulkAll, List.map_cons, List.map_nil, bkC]
    omega
set_option maxRecDepth 100000 in
/-- A document by value. -/
theorem open_doc {v : Value} {d : DataW H} {p : List MemPlace} {b0 : Nat} (hsp : ∀ b, spare b = true)
    (hv : Value.okWide Tryz.prog W .any b0 27 v) (h : DataW.Trod enc Tryz.prog W base spare held 27 v d p) :
    ∃ D : Dc, DocV W v D ∧ (Rows.uptoBulk d ≤ 1048576 → D.fit) := by
  obtain ⟨cs, rfl, hsz⟩ := okWide_struct Tryz.underlying27 hv
  rw [cell27] at hsz
  obtain ⟨fuel, h⟩ := h
  obtain ⟨xs, m, _, ex, _, hlen, hf⟩ := DataW.trod_struct Tryz.underlying27 h
  obtain ⟨l⟩ := cs
  replace hsz : l.length = 8 := hsz
  match l, hsz, xs, hlen with
  | [v0, v1, v2, v3, v4, v5, v6, v7], _, [y0, y1, y2, y3, y4, y5, y6, y7], _ =>
    have h0 := hf 0 _ rfl
    have h1 := hf 1 _ rfl
    have h2 := hf 2 _ rfl
    have h3 := hf 3 _ rfl
    have h4 := hf 4 _ rfl
    have h5 := hf 5 _ rfl
    have h6 := hf 6 _ rfl
    have h7 := hf 7 _ rfl
    simp only [Value.cells, cell2, cell22, cell4, cell9, cell23, cell24, cell25, List.getElem_toArray, List.getElem_cons_zero, List.getElem_cons_succ, List.drop_zero, List.drop_succ_cons, List.take_succ_cons, List.take_zero, List.getElem?_cons_zero, List.getElem?_cons_succ] at h0 h1 h2 h3 h4 h5 h6 h7
    clear hf
    obtain ⟨title, e0, b0⟩ := trodB Tryz.underlying9 h0
    obtain ⟨lang, e1, b1⟩ := trodB Tryz.underlying9 h1
    obtain ⟨rate, e2, hr⟩ := trodU Tryz.underlying22 h2
    obtain ⟨drop, e3⟩ := trodL Tryz.underlying4 h3
    obtain ⟨last, e4, _⟩ := trodI Tryz.underlying2 h4
    obtain ⟨vg, R, e5, hR, qR, bR⟩ := open_row 7 (by decide) Tryz.underlying23 cell56 Rg.cells Rg.cells_len (fun q => q.al < 256) (fun q => q.nm.size) open_rg hsp h5
    obtain ⟨ve, E, e6, hE, qE, bE⟩ := open_row 7 (by decide) Tryz.underlying24 cell63 (fun q : Ev × Value => evCells q.1 q.2) (fun _ => rfl) (fun q => RowsR W q.2 q.1.rows ∧ q.1.kind < 256) (fun q => bkV q.1) (open_ev hsp) hsp h6
    obtain ⟨vc, C, e7, hC, qC, bC⟩ := open_row 8 (by decide) Tryz.underlying25 cell67 Cm.cells Cm.cells_len (fun q => (Lit.int .i64 q.id).wf = true) bkC open_cm hsp h7
    simp only [List.cons.injEq, and_true] at e0 e1 e2 e3 e4 e5 e6 e7
    subst e0 e1 e2 e3 e4 e5 e6 e7
    refine ⟨⟨title, lang, rate, drop, last, R, E.map (·.1), C⟩, ⟨v5, v6, v7, rfl, hR, ⟨E, rfl, by rw [List.length_map]; exact hE, fun x hx => (qE x hx).1⟩, hC⟩, fun hb => ?_⟩
    have ed : d = .agg [y0.1, y1.1, y2.1, y3.1, y4.1, y5.1, y6.1, y7.1] := congrArg Prod.fst ex
    rw [ed] at hb
    simp only [Rows.uptoBulk, Rows.uptoBulkAll] at hb
    refine ⟨?_, ?_, hr, fun r hr' => ⟨?_, qR r hr'⟩, ?_, fun e he => ?_, ?_, fun c hc => ?_, ?_⟩
    · show title.length ≤ _; omega
    · show lang.length ≤ _; omega
    · have := le_sum (fun q : Rg => q.nm.size) R r hr'
      omega
    · show R.length ≤ _; omega
    · obtain ⟨x, hx, rfl⟩ := List.mem_map.1 he
      have := le_sum (fun q : Ev × Value => bkV q.1) E x hx
      exact evFit_of (qE x hx).2 (by omega)
    · show (E.map (·.1)).length ≤ _
      rw [List.length_map]; omega
    · have := le_sum bkC C c hc
      have h3 : bkC c = c.au.length + c.tx.length := rfl
      exact ⟨qC c hc, by omega, by omega⟩
    · show C.length ≤ _; omega
end
end Go.Proofs.YtgiaohccebolpaaGreatDoor
