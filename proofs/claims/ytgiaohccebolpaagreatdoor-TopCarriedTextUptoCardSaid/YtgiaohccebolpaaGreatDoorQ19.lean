import Derived.Test.YtgiaohccebolpaaGreatDoorQ18
namespace Go.Proofs.YtgiaohccebolpaaGreatDoor
open Go Go.RowKit
open Go.Lib hiding intOf
set_option linter.unusedVariables false
theorem trim_no (ln : List UInt8) (h : Lib.trimSuffix ln [13] = ln) (hl : ln.length ≤ 1000000) (w : World) : Calls Tryz.prog 14 #[.string (ba ln), .string ⟨#[13]⟩] w fun e w' => e = .returned (.string (ba ln)) ∧ w' = w := by
  have c := Tryz.strings_TrimSuffix (ba ln) ⟨#[13]⟩ w (by rw [ba_size]; omega)
  have e : Lib.trimSuffix (ba ln).data.toList (⟨#[13]⟩ : ByteArray).data.toList = ln := h
  rw [e] at c; exact c
theorem own_same {w w' : World} {B E s g n c m : Nat} {xs : List Value} (h : w.ownsRow B E s (.slice (some ⟨g, 0, none⟩) n c) m xs) (e : w'.heap[g]? = w.heap[g]?) : w'.ownsRow B E s (.slice (some ⟨g, 0, none⟩) n c) m xs := by
  refine ⟨h.1, ?_⟩
  rcases h.2 with h2 | ⟨g', cap, cur, h2, hb, hg, rest⟩
  · exact Or.inl h2
  · refine Or.inr ⟨g', cap, cur, h2, hb, ?_, rest⟩
    have : g = g' := by injection h2 with h2; injection h2 with h2; injection h2
    subst this
    rw [e]; exact hg
theorem own_cur {w : World} {B E s g n c m : Nat} {xs : List Value} (h : w.ownsRow B E s (.slice (some ⟨g, 0, none⟩) n c) m xs) : ∃ cur, w.heap[g]? = some (.cells cur E (0, 0)) := by
  rcases h.2 with h2 | ⟨g', cap, cur, h2, hb, hg, rest⟩
  · cases h2.1
  · have : g = g' := by injection h2 with h2; injection h2 with h2; injection h2
    subst this
    exact ⟨cur, hg⟩
theorem line_len (L : List (List UInt8)) : ∀ l ∈ L, l.length ≤ (joinL L).length := by
  intro l hl
  induction L with
  | nil => cases hl
  | cons x L ih =>
    have e : (joinL (x :: L)).length = x.length + 1 + (joinL L).length := by simp [joinL]; omega
    rcases List.mem_cons.1 hl with rfl | h
    · omega
    · have := ih h; omega
theorem blk_grown {w w' : World} {k : Nat} {o : Obj} {b : Option Nat} (h : w.heap[k]? = some o) (hg : w.grownBy w' b) (hne : b ≠ some k) : w'.heap[k]? = some o := by
  rw [hg.block k (heap_lt h) (Ne.symm hne)]; exact h
theorem EvsO.grown9 {w w' : World} {B B' m : Nat} {v u : Value} {L : List Ev} {ys : List Value} (h : EvsO w B v L) (ho : w.ownsRow B' 9 1 u m ys) (hg : w.grownBy w' u.ownBlock) : EvsO w' B v L := by
  obtain ⟨p, h1, h2, h3⟩ := h
  exact ⟨p, h1, own_grown h2 ho (by decide) hg, fun x hx => (h3 x hx).grown ho (by decide) (by decide) hg⟩
theorem EvsO.far8 {w : World} {B b : Nat} {v : Value} {L : List Ev} {cs : Array Value} {E : TypeId} {x0 x1 x2 x3 x4 x5 x6 x7 : Value} (h : EvsO w B v L) (hb : w.heap[b]? = some (.cells cs E (0, 0))) (h0 : E ≠ 63) (h1 : E ≠ 71) (h2 : E ≠ 111) : EvsO ((((((((w.setCell ⟨b, 0, none⟩ x0).setCell ⟨b, 1, none⟩ x1).setCell ⟨b, 2, none⟩ x2).setCell ⟨b, 3, none⟩ x3).setCell ⟨b, 4, none⟩ x4).setCell ⟨b, 5, none⟩ x5).setCell ⟨b, 6, none⟩ x6).setCell ⟨b, 7, none⟩ x7) B v L :=
  ((((((((h.far (o := 0) (u := x0) hb h0 h1 h2).far (o := 1) (u := x1) (blk_set (o := 0) (u := x0) hb) h0 h1 h2).far (o := 2) (u := x2) (blk_set (o := 1) (u := x1) (blk_set (o := 0) (u := x0) hb)) h0 h1 h2).far (o := 3) (u := x3) (blk_set (o := 2) (u := x2) (blk_set (o := 1) (u := x1) (blk_set (o := 0) (u := x0) hb))) h0 h1 h2).far (o := 4) (u := x4) (blk_set (o := 3) (u := x3) (blk_set (o := 2) (u := x2) (blk_set (o := 1) (u := x1) (blk_set (o := 0) (u := x0) hb)))) h0 h1 h2).far (o := 5) (u := x5) (blk_set (o := 4) (u := x4) (blk_set (o := 3) (u := x3) (blk_set (o := 2) (u := x2) (blk_set (o := 1) (u := x1) (blk_set (o := 0) (u := x0) hb))))) h0 h1 h2).far (o := 6) (u := x6) (blk_set (o := 5) (u := x5) (blk_set (o := 4) (u := x4) (blk_set (o := 3) (u := x3) (blk_set (o := 2) (u := x2) (blk_set (o := 1) (u := x1) (blk_set (o := 0) (u := x0) hb)))))) h0 h1 h2).far (o := 7) (u := x7) (blk_set (o := 6) (u := x6) (blk_set (o := 5) (u := x5) (blk_set (o := 4) (u := x4) (blk_set (o := 3) (u := x3) (blk_set (o := 2) (u := x2) (blk_set (o := 1) (u := x1) (blk_set (o := 0) (u := x0) hb))))))) h0 h1 h2)
theorem below8 {B b : Nat} {w0 w : World} {x0 x1 x2 x3 x4 x5 x6 x7 : Value} (h : Below B w0 w) (hb : B ≤ b) : Below B w0 ((((((((w.setCell ⟨b, 0, none⟩ x0).setCell ⟨b, 1, none⟩ x1).setCell ⟨b, 2, none⟩ x2).setCell ⟨b, 3, none⟩ x3).setCell ⟨b, 4, none⟩ x4).setCell ⟨b, 5, none⟩ x5).setCell ⟨b, 6, none⟩ x6).setCell ⟨b, 7, none⟩ x7) :=
  ((((((((h.setCell (p := ⟨b, 0, none⟩) hb x0).setCell (p := ⟨b, 1, none⟩) hb x1).setCell (p := ⟨b, 2, none⟩) hb x2).setCell (p := ⟨b, 3, none⟩) hb x3).setCell (p := ⟨b, 4, none⟩) hb x4).setCell (p := ⟨b, 5, none⟩) hb x5).setCell (p := ⟨b, 6, none⟩) hb x6).setCell (p := ⟨b, 7, none⟩) hb x7)
theorem post_drew {P : Program} {fn : Func} {R : Ending → World → Prop} {ex : Exit} {a : Act} {X : World} (F : World → Prop) (h : F X) (k : ∀ W, F W → bodyPost P fn R ex a W.drew) : bodyPost P fn R ex a X.drew := k X h
set_option maxHeartbeats 16000000 in
set_option maxRecDepth 100000 in
theorem decode_ok (r : Nat) (hr : r < 256) (hok : okRate r = true) (drop : Bool) (hdr : drop = true → dropOf r = true) (L : List (List UInt8)) (fin : List Ev) (w : World) (h10 : ∀ l ∈ L, 10 ∉ l) (hlen : (joinL L).length ≤ 262144) (hL : L.length ≤ 262144) (hG : Good r (L ++ [[], []]) [] [] fin) (hn : fin.length < 20) (ho : InOrder fin) (hf : evsFit fin) (env : Env w) :
    Calls Tryz.prog 6 #[.string (ba (joinL L)), .int .u8 (r : Int), .bool drop] w fun e w' => ∃ vd, e = .returned (.tuple #[vd, .slice none 0 0]) ∧ DocV w' vd ⟨[], [], r, drop, (fin.length : Int), [], fin, []⟩ ∧ Below w.heap.size w w' := by
  obtain ⟨i0, hi, iz0, iz1, iz2⟩ := info_parts info9
  obtain ⟨hc1, hc2⟩ := split_lines L h10
  have hsz := ba_size (joinL L)
  obtain ⟨mx, hmx⟩ := env.maxl
  have cS := fun w' (hm : w'.cell? ⟨0, 0, none⟩ = some (.int .i64 mx)) => Tryz.strings_Split (ba (joinL L)) lfS mx w' (by omega) hm (by decide)
  rw [hc1, hc2] at cS
  have cV := fun w' => valid_rate r hr w'
  have cD := fun w' => candrop_any r hr w'
  rw [hok] at cV
  have hokk := hok
  have HG := Lib.hid hG
  have HOR := Lib.hid ho
  have HFT := Lib.hid hf
  have HDS := Lib.hid (drop_str (L ++ [[], []]))
  have hz : ¬ ((262144 : Int) < ((ba (joinL L)).size : Int)) := by omega
  have hll : ∀ i, ((L ++ [[], []]).getD i []).length ≤ 1000000 := by
    intro i
    rcases Nat.lt_or_ge i (L ++ [[], []]).length with h | h
    · rw [getD_of h]
      have hm := List.getElem_mem h
      rcases List.mem_append.1 hm with h2 | h2
      · have := line_len L _ h2; omega
      · have : (L ++ [[], []])[i] = [] := by simpa using h2
        rw [this]; simp
    · rw [List.getD_eq_getElem?_getD, List.getElem?_eq_none h]; simp
  have hxs : ((L.map ba ++ [ba []]).map Value.string).toArray.toList = scells (L ++ [[]]) := by
    simp [scells]
  have hxl : ((L.map ba ++ [ba []]).map Value.string).toArray.size = (L.length + 1) * 1 := by simp
  have hall : scells (L ++ [[]]) ++ [.string ⟨#[]⟩] = scells (L ++ [[], []]) := by
    simp [scells]; rfl
  have hNl : (L ++ [[], []]).length = L.length + 2 := by simp
  have HLL := Lib.hid hll
  generalize ((L.map ba ++ [ba []]).map Value.string).toArray = CS at *
  clear hc1 hc2 hok h10 hlen hG ho hf hll
  generalize ba (joinL L) = S at *
  rcases drop with _ | _
  · clear hdr cD
    go_enter Tryz.func6, Tryz.ntmps6
    go_wp2_with fail
    refine (cV _).mono ?_
    rintro e w2 ⟨rfl, hb2⟩
    have H0 := Lib.hid (blk_stay (heap_alloc_new w (.cells #[.string ⟨#[]⟩, .string ⟨#[]⟩, .int .u8 0, .bool false, .int .i64 0, .slice none 0 0, .slice none 0 0, .slice none 0 0] 27)) hb2)
    have HB2 := Lib.hid ((below1 (.cells #[.string ⟨#[]⟩, .string ⟨#[]⟩, .int .u8 0, .bool false, .int .i64 0, .slice none 0 0, .slice none 0 0, .slice none 0 0] 27) (Nat.le_refl w.heap.size)).trans (hb2.mono (by simp)))
    clear hb2 cV
    have hszB := HB2.out.size
    have hlw := heap_lt H0.out
    have hR2 := heap_alloc_new w2 (.cells (rdC r false (.slice none 0 0)) 44)
    have hbr := HB2.out.alloc hszB (.cells (rdC r false (.slice none 0 0)) 44)
    go_wp2_with fail
    refine (cS _ ((hbr.cell (cell_lt hmx)).trans hmx)).mono ?_
    rintro e w3 ⟨rfl, rfl⟩
    have how3 := World.ownsRow_lit (base := w.heap.size) (e := 9) (size := 1) (w2.alloc (.cells (rdC r false (.slice none 0 0)) 44)) CS (L.length + 1) (by simp; omega) (by unfold maxLen; omega) hxl
    rw [hxs] at how3
    simp only [World.size_alloc] at how3
    go_wp2_with (at_builtin; (refine wpList_append_row rfl _ _ 45 rfl w.heap.size 9 i0 _ 1 16 Tryz.underlying45 hi iz0 iz1 iz2 rfl (by decide) _ _ _ rfl (how3.alloc _) _ 1 _ rfl (lit_row _ _ _ (by simp) rfl) (one_lit rfl) ?c3 ?c4 ?c5 ?_))
    case c3 => unfold maxLen; omega
    case c4 => omega
    case c5 => simp; omega
    intro v4 w4 how4 hgrow4 _
    have how5 : w4.ownsRow w.heap.size 9 1 v4 (L ++ [[], []]).length (scells (L ++ [[], []])) := by
      rw [hNl]; first | exact how4 | (rw [← hall]; exact how4)
    have R4 := Lib.hid (app_grow hR2 (((below1 _ (Nat.le_refl _)).alloc (by simp) _)) (how3.alloc _) (by decide) hgrow4)
    have H04 := Lib.hid (app_grow H0.out ((((below1 _ (Nat.le_refl _)).alloc (by simp) _)).alloc (by simp; omega) _) (how3.alloc _) (by decide) hgrow4)
    have HB4 := Lib.hid (app_step (how3.alloc _) ((hbr.alloc (by simp; omega) _).alloc (by simp; omega) _) (by simp; omega) hgrow4)
    have hz4 : w2.heap.size < w4.heap.size := heap_lt R4.out
    clear how4 how3 hgrow4 hR2 hbr H0 HB2 hxs hxl hall
    generalize hAll : L ++ [[], []] = All at *
    have hN0 : 0 < All.length := by omega
    obtain ⟨a4, c4, rfl⟩ := own_len how5
    obtain ⟨ga, rfl, _⟩ := own_addr how5 hN0
    have hgl := (how5.lt ga rfl)
    obtain ⟨cur, hcur⟩ := own_cur how5
    have hga : ga ≠ w2.heap.size := nm_ne (B := 0) hcur R4.out (by decide)
    have HA := Lib.hid how5
    have HC := Lib.hid hcur
    clear how5 hcur hmx cS
    go_wp2_with fail
    go_loopw [47, 9] (fun v u wx => ∃ (i : Nat) (acc : List (List UInt8)) (evs : List Ev) (ve : Value), v = .int .i64 i ∧ i ≤ All.length ∧ acc.length ≤ i ∧ Hid (wx.ownsRow w4.heap.size 9 1 u acc.length (scells acc)) ∧ Hid (wx.heap[w2.heap.size]? = some (.cells (rdC r false ve) 44 (0, 0))) ∧ Hid (EvsO wx w.heap.size ve evs) ∧ Hid (wx.heap[ga]? = some (.cells cur 9 (0, 0))) ∧ Hid (wx.heap[w.heap.size]? = some (.cells #[.string ⟨#[]⟩, .string ⟨#[]⟩, .int .u8 0, .bool false, .int .i64 0, .slice none 0 0, .slice none 0 0, .slice none 0 0] 27 (0, 0))) ∧ Hid (Good r (All.drop i) acc evs fin) ∧ Hid (Below w.heap.size w wx) ∧ w4.heap.size ≤ wx.heap.size) (fun v _ _ => All.length - (intOf v).toNat)
    case atStart => exact ⟨0, [], [], _, rfl, Nat.zero_le _, Nat.le_refl _, Lib.hid (World.ownsRow_nil _ _ _ _), R4, Lib.hid (EvsO.nil _ _), HC, H04, HG, HB4, Nat.le_refl _⟩
    case round =>
      clear R4 H04 HG HB4 hz4
      obtain ⟨i, acc, evs, ve, rfl, hil, hai, HU, HR, HE, HGA, H0, HG, HB, hz4⟩ := hrel
      have hszr := HB.out.size
      by_cases hlt : i < All.length
      · have hiz : (i : Int) < (All.length : Int) := by omega
        have hg := HG.out
        rw [HDS.out i hlt] at hg
        obtain ⟨g1, g2, g3, g4⟩ := hg.cons
        have hAr := own_same (w' := wr) HA.out (by rw [HGA.out, HC.out])
        have hcl := (RowR.of_own hAr).cellAt i (.string (ba (All.getD i []))) (by rw [scells, List.getElem?_map, List.getElem?_eq_getElem hlt, getD_of hlt]; rfl)
        rw [Nat.zero_add] at hcl
        have hxl := HLL.out i
        have cT := fun w => trim_no (All.getD i []) g1 hxl w
        clear hg hAr g1
        obtain ⟨au, cu, rfl⟩ := own_len HU.out
        have hem := ba_empty (All.getD i [])
        generalize All.getD i [] = X at *
        by_cases hX : X = []
        · have hem2 : (ba X).toList.isEmpty = true := by rw [hem]; simpa using hX
          by_cases hac : acc = []
          · have HG2 := Lib.hid (g3 hX hac)
            have hac0 : acc.length = 0 := by rw [hac]; rfl
            have hd0 : decide ((0 : Int) < (acc.length : Int)) = false := by rw [hac0]; rfl
            have hd1 : ¬ ((0 : Int) < (acc.length : Int)) := by omega
            clear g2 g3 g4 hem hX hac hac0 hd0
            go_wp2_with fail
            refine (cT _).mono ?_
            rintro e w5 ⟨rfl, rfl⟩
            go_wp2_with fail
            go_roundw
            case rel => exact ⟨i + 1, [], evs, ve, by go_num, by omega, by simp, Lib.hid (World.ownsRow_nil _ _ _ _), HR, HE, HGA, H0, HG2, HB, hz4⟩
            case measure => simp [intOf]; omega
          · obtain ⟨num, m1, m2, f1, f2, rows, hae, hev, hbk, hgg⟩ := g4 hX hac
            have HG2 := Lib.hid hgg
            have hacl : 0 < acc.length := List.length_pos_iff.2 hac
            have hd1 : (0 : Int) < (acc.length : Int) := by omega
            have hSR : StrR wr (.slice au acc.length cu) acc := RowR.of_own HU.out
            have cB := fun henv : Env wr => block_ok r hr hokk false w.heap.size w2.heap.size ve evs num m1 m2 f1 f2 rows (.slice au acc.length cu) ((i : Int) - (acc.length : Int) + 1) wr hbk HR.out HE.out (by omega) hszr hev (by rw [← hae]; exact hSR) (by omega) (by omega) henv
            have henv := env.below HB.out
            have cB2 := cB henv
            clear g2 g3 g4 hem cB henv hSR hgg hbk hX hac hae
            go_wp2_with fail
            refine (cT _).mono ?_
            rintro e w5 ⟨rfl, rfl⟩
            go_wp2_with fail
            refine cB2.mono ?_
            rintro e w6 ⟨rfl, ve6, hR6, hE6, hB6, hK6⟩
            have HB6 := Lib.hid (HB.out.trans hB6)
            have HGA6 := Lib.hid (hK6 _ _ _ HGA.out (by decide) (by omega))
            have H06 := Lib.hid (hK6 _ _ _ H0.out (by decide) (by omega))
            have HR6 := Lib.hid hR6
            have HE6 := Lib.hid hE6
            have hz6 : w4.heap.size ≤ w6.heap.size := by have := hB6.size; omega
            clear hR6 hE6 hB6 hK6 cB2
            go_wp2_with fail
            go_roundw
            case rel => exact ⟨i + 1, [], _, ve6, by go_num, by omega, by simp, Lib.hid (World.ownsRow_nil _ _ _ _), HR6, HE6, HGA6, H06, HG2, HB6, hz6⟩
            case measure => simp [intOf]; omega
        · have hem2 : (ba X).toList.isEmpty = false := by rw [hem]; simpa using hX
          have HG2 := Lib.hid (g2 hX)
          clear g2 g3 g4 hem hX
          go_wp2_with fail
          refine (cT _).mono ?_
          rintro e w5 ⟨rfl, rfl⟩
          go_wp2_with (at_builtin; refine wpList_append_row rfl _ _ 45 rfl w4.heap.size 9 i0 _ 1 16 Tryz.underlying45 hi iz0 iz1 iz2 rfl (by decide) _ _ _ rfl (HU.out.alloc _) _ 1 _ rfl (lit_row _ _ _ rfl rfl) (one_lit rfl) ?c3 ?c4 ?c5 ?_)
          case c3 => unfold maxLen; omega
          case c4 => omega
          case c5 => simp; omega
          intro v6 w6 how6 hgrow6 _
          have how7 : w6.ownsRow w4.heap.size 9 1 v6 (acc ++ [X]).length (scells (acc ++ [X])) := by rw [List.length_append, scells_snoc]; exact how6
          have hgne : (Value.slice au acc.length cu).ownBlock ≠ some ga := by
            intro e
            have := own_from HU.out e
            omega
          have hb5 := below1 (.cells #[.string (ba X)] 9) (Nat.le_refl w5.heap.size)
          have HGA6 := Lib.hid (blk_grown (blk_stay HGA.out hb5) hgrow6 hgne)
          have HR6 := Lib.hid (app_grow HR.out hb5 (HU.out.alloc _) (by decide) hgrow6)
          have H06 := Lib.hid (app_grow H0.out hb5 (HU.out.alloc _) (by decide) hgrow6)
          have HE6 := Lib.hid ((HE.out.stays hb5).grown9 (HU.out.alloc _) hgrow6)
          have HB6 := Lib.hid (app_step (own_low (HU.out.alloc _) (by omega)) (HB.out.alloc hszr _) (by simp; omega) hgrow6)
          have HO7 := Lib.hid how7
          have hz6 : w4.heap.size ≤ w6.heap.size := by have := hgrow6.size; simp at this; omega
          clear how6 how7 hgrow6 hgne
          go_wp2_with fail
          go_roundw
          case rel => exact ⟨i + 1, acc ++ [X], evs, ve, by go_num, by omega, by simp; omega, HO7, HR6, HE6, HGA6, H06, HG2, HB6, hz6⟩
          case measure => simp [intOf]; omega
      · obtain rfl : i = All.length := by omega
        have hiz : ¬ (All.length : Int) < (All.length : Int) := by omega
        have hg := HG.out
        rw [List.drop_length] at hg
        obtain ⟨_, hev⟩ : acc = [] ∧ evs = fin := hg
        subst hev
        obtain ⟨ae, ce, rfl⟩ := HE.out.len
        have cSo := Sort_any (.slice ae evs.length ce) evs wr HE.out.toR hn HOR.out HFT.out
        obtain ⟨t0, t1, t2, t3, t4, t5, t6, t7, t8, t9, tf, tl⟩ := blk10 HR.out
        clear HG
        go_wp2_with fail
        refine cSo.mono ?_
        rintro e w5 ⟨ve5, rfl, hE5, hb5⟩
        obtain ⟨ae5, ce5, rfl⟩ := hE5.len
        have HR5 := Lib.hid (blk_stay HR.out hb5)
        have H05 := Lib.hid (blk_stay H0.out hb5)
        have HE5 := Lib.hid hE5
        have HB5 := Lib.hid (below_grow HB.out hszr hb5)
        clear hb5 hE5 cSo t0 t1 t2 t3 t4 t5 t6 t7 t8 t9 tf tl
        obtain ⟨t0, t1, t2, t3, t4, t5, t6, t7, t8, t9, tf, tl⟩ := blk10 HR5.out
        go_wp2_with fail
        have hne : w.heap.size ≠ w2.heap.size := by omega
        have hne2 : w2.heap.size ≠ w.heap.size := by omega
        have R6 := blk_set (o := 7) (u := .slice ae5 evs.length ce5) HR5.out
        refine world_as (fun W => W.heap[w2.heap.size]? = some (.cells #[.int .u8 (r : Int), .string ⟨#[]⟩, .string ⟨#[]⟩, .int .u8 (r : Int), .bool false, .int .i64 (evs.length : Int), .slice none 0 0, .slice ae5 evs.length ce5, .slice none 0 0, .slice none 0 0] 44 (0, 0)) ∧ EvsO W wr.heap.size (.slice ae5 evs.length ce5) evs ∧ W.heap[w.heap.size]? = some (.cells #[.string ⟨#[]⟩, .string ⟨#[]⟩, .int .u8 0, .bool false, .int .i64 0, .slice none 0 0, .slice none 0 0, .slice none 0 0] 27 (0, 0)) ∧ Below w.heap.size w W)
          ⟨blk_set (o := 5) (u := .int .i64 (evs.length : Int)) R6, (HE5.out.far (o := 7) (u := .slice ae5 evs.length ce5) HR5.out (by decide) (by decide) (by decide)).far (o := 5) (u := .int .i64 (evs.length : Int)) R6 (by decide) (by decide) (by decide), blk_other (blk_other H05.out hne) hne, (HB5.out.setCell (p := ⟨w2.heap.size, 7, none⟩) (by omega) _).setCell (p := ⟨w2.heap.size, 5, none⟩) (by omega) _⟩ ?_
        rintro W ⟨hR7, hE7, h07, hB7⟩
        have HE7 := Lib.hid hE7
        have HB7 := Lib.hid hB7
        clear hE7 hB7 HE HE5 HR HR5 H0 H05 HB HB5 R6 HU HGA HA HC t0 t1 t2 t3 t4 t5 t6 t7 t8 t9 tf tl
        obtain ⟨t0, t1, t2, t3, t4, t5, t6, t7, t8, t9, tf, tl⟩ := blk10 hR7
        obtain ⟨d0, d1, d2, d3, d4, d5, d6, d7, df, dl⟩ := blk8 h07
        go_region
        go_wp2_with fail
        refine post_drew (fun W' => W'.heap[w.heap.size]? = some (.cells #[.string ⟨#[]⟩, .string ⟨#[]⟩, .int .u8 (r : Int), .bool false, .int .i64 (evs.length : Int), .slice none 0 0, .slice ae5 evs.length ce5, .slice none 0 0] 27 (0, 0)) ∧ EvsO W' wr.heap.size (.slice ae5 evs.length ce5) evs ∧ Below w.heap.size w W') ⟨set8 h07, HE7.out.far8 h07 (by decide) (by decide) (by decide), below8 HB7.out (Nat.le_refl _)⟩ ?_
        rintro W' ⟨q1, q2, q3⟩
        exact bodyPost_ret (results_cell_tmp Tryz.results6 _ W'.drew w.heap.size _ _ _ _ rfl q1 Tryz.underlying27 (by kernel_rfl)) rfl ⟨_, rfl, ⟨.slice none 0 0, .slice ae5 evs.length ce5, .slice none 0 0, rfl, ⟨rfl, Or.inl ⟨rfl, rfl⟩⟩, EvsR.below q2.toR (Below.refl _ _).drew, ⟨rfl, Or.inl ⟨rfl, rfl⟩⟩⟩, q3.drew⟩
  · have hdr2 := hdr rfl
    rw [hdr2] at cD
    clear hdr hdr2
    go_enter Tryz.func6, Tryz.ntmps6
    go_wp2_with fail
    refine (cV _).mono ?_
    rintro e w1 ⟨rfl, hb1⟩
    go_wp2_with fail
    refine (cD _).mono ?_
    rintro e w2 ⟨rfl, hb2⟩
    have H0 := Lib.hid (blk_stay (blk_stay (heap_alloc_new w (.cells #[.string ⟨#[]⟩, .string ⟨#[]⟩, .int .u8 0, .bool false, .int .i64 0, .slice none 0 0, .slice none 0 0, .slice none 0 0] 27)) hb1) hb2)
    have HB2 := Lib.hid (below_grow ((below1 (.cells #[.string ⟨#[]⟩, .string ⟨#[]⟩, .int .u8 0, .bool false, .int .i64 0, .slice none 0 0, .slice none 0 0, .slice none 0 0] 27) (Nat.le_refl w.heap.size)).trans (hb1.mono (by simp))) (by have := hb1.size; simp at this; omega) hb2)
    clear hb1 hb2 cV cD
    have hszB := HB2.out.size
    have hlw := heap_lt H0.out
    have hR2 := heap_alloc_new w2 (.cells (rdC r true (.slice none 0 0)) 44)
    have hbr := HB2.out.alloc hszB (.cells (rdC r true (.slice none 0 0)) 44)
    go_wp2_with fail
    refine (cS _ ((hbr.cell (cell_lt hmx)).trans hmx)).mono ?_
    rintro e w3 ⟨rfl, rfl⟩
    have how3 := World.ownsRow_lit (base := w.heap.size) (e := 9) (size := 1) (w2.alloc (.cells (rdC r true (.slice none 0 0)) 44)) CS (L.length + 1) (by simp; omega) (by unfold maxLen; omega) hxl
    rw [hxs] at how3
    simp only [World.size_alloc] at how3
    go_wp2_with (at_builtin; (refine wpList_append_row rfl _ _ 45 rfl w.heap.size 9 i0 _ 1 16 Tryz.underlying45 hi iz0 iz1 iz2 rfl (by decide) _ _ _ rfl (how3.alloc _) _ 1 _ rfl (lit_row _ _ _ (by simp) rfl) (one_lit rfl) ?c3 ?c4 ?c5 ?_))
    case c3 => unfold maxLen; omega
    case c4 => omega
    case c5 => simp; omega
    intro v4 w4 how4 hgrow4 _
    have how5 : w4.ownsRow w.heap.size 9 1 v4 (L ++ [[], []]).length (scells (L ++ [[], []])) := by
      rw [hNl]; first | exact how4 | (rw [← hall]; exact how4)
    have R4 := Lib.hid (app_grow hR2 (((below1 _ (Nat.le_refl _)).alloc (by simp) _)) (how3.alloc _) (by decide) hgrow4)
    have H04 := Lib.hid (app_grow H0.out ((((below1 _ (Nat.le_refl _)).alloc (by simp) _)).alloc (by simp; omega) _) (how3.alloc _) (by decide) hgrow4)
    have HB4 := Lib.hid (app_step (how3.alloc _) ((hbr.alloc (by simp; omega) _).alloc (by simp; omega) _) (by simp; omega) hgrow4)
    have hz4 : w2.heap.size < w4.heap.size := heap_lt R4.out
    clear how4 how3 hgrow4 hR2 hbr H0 HB2 hxs hxl hall
    generalize hAll : L ++ [[], []] = All at *
    have hN0 : 0 < All.length := by omega
    obtain ⟨a4, c4, rfl⟩ := own_len how5
    obtain ⟨ga, rfl, _⟩ := own_addr how5 hN0
    have hgl := (how5.lt ga rfl)
    obtain ⟨cur, hcur⟩ := own_cur how5
    have hga : ga ≠ w2.heap.size := nm_ne (B := 0) hcur R4.out (by decide)
    have HA := Lib.hid how5
    have HC := Lib.hid hcur
    clear how5 hcur hmx cS
    go_wp2_with fail
    go_loopw [47, 9] (fun v u wx => ∃ (i : Nat) (acc : List (List UInt8)) (evs : List Ev) (ve : Value), v = .int .i64 i ∧ i ≤ All.length ∧ acc.length ≤ i ∧ Hid (wx.ownsRow w4.heap.size 9 1 u acc.length (scells acc)) ∧ Hid (wx.heap[w2.heap.size]? = some (.cells (rdC r true ve) 44 (0, 0))) ∧ Hid (EvsO wx w.heap.size ve evs) ∧ Hid (wx.heap[ga]? = some (.cells cur 9 (0, 0))) ∧ Hid (wx.heap[w.heap.size]? = some (.cells #[.string ⟨#[]⟩, .string ⟨#[]⟩, .int .u8 0, .bool false, .int .i64 0, .slice none 0 0, .slice none 0 0, .slice none 0 0] 27 (0, 0))) ∧ Hid (Good r (All.drop i) acc evs fin) ∧ Hid (Below w.heap.size w wx) ∧ w4.heap.size ≤ wx.heap.size) (fun v _ _ => All.length - (intOf v).toNat)
    case atStart => exact ⟨0, [], [], _, rfl, Nat.zero_le _, Nat.le_refl _, Lib.hid (World.ownsRow_nil _ _ _ _), R4, Lib.hid (EvsO.nil _ _), HC, H04, HG, HB4, Nat.le_refl _⟩
    case round =>
      clear R4 H04 HG HB4 hz4
      obtain ⟨i, acc, evs, ve, rfl, hil, hai, HU, HR, HE, HGA, H0, HG, HB, hz4⟩ := hrel
      have hszr := HB.out.size
      by_cases hlt : i < All.length
      · have hiz : (i : Int) < (All.length : Int) := by omega
        have hg := HG.out
        rw [HDS.out i hlt] at hg
        obtain ⟨g1, g2, g3, g4⟩ := hg.cons
        have hAr := own_same (w' := wr) HA.out (by rw [HGA.out, HC.out])
        have hcl := (RowR.of_own hAr).cellAt i (.string (ba (All.getD i []))) (by rw [scells, List.getElem?_map, List.getElem?_eq_getElem hlt, getD_of hlt]; rfl)
        rw [Nat.zero_add] at hcl
        have hxl := HLL.out i
        have cT := fun w => trim_no (All.getD i []) g1 hxl w
        clear hg hAr g1
        obtain ⟨au, cu, rfl⟩ := own_len HU.out
        have hem := ba_empty (All.getD i [])
        generalize All.getD i [] = X at *
        by_cases hX : X = []
        · have hem2 : (ba X).toList.isEmpty = true := by rw [hem]; simpa using hX
          by_cases hac : acc = []
          · have HG2 := Lib.hid (g3 hX hac)
            have hac0 : acc.length = 0 := by rw [hac]; rfl
            have hd0 : decide ((0 : Int) < (acc.length : Int)) = false := by rw [hac0]; rfl
            have hd1 : ¬ ((0 : Int) < (acc.length : Int)) := by omega
            clear g2 g3 g4 hem hX hac hac0 hd0
            go_wp2_with fail
            refine (cT _).mono ?_
            rintro e w5 ⟨rfl, rfl⟩
            go_wp2_with fail
            go_roundw
            case rel => exact ⟨i + 1, [], evs, ve, by go_num, by omega, by simp, Lib.hid (World.ownsRow_nil _ _ _ _), HR, HE, HGA, H0, HG2, HB, hz4⟩
            case measure => simp [intOf]; omega
          · obtain ⟨num, m1, m2, f1, f2, rows, hae, hev, hbk, hgg⟩ := g4 hX hac
            have HG2 := Lib.hid hgg
            have hacl : 0 < acc.length := List.length_pos_iff.2 hac
            have hd1 : (0 : Int) < (acc.length : Int) := by omega
            have hSR : StrR wr (.slice au acc.length cu) acc := RowR.of_own HU.out
            have cB := fun henv : Env wr => block_ok r hr hokk true w.heap.size w2.heap.size ve evs num m1 m2 f1 f2 rows (.slice au acc.length cu) ((i : Int) - (acc.length : Int) + 1) wr hbk HR.out HE.out (by omega) hszr hev (by rw [← hae]; exact hSR) (by omega) (by omega) henv
            have henv := env.below HB.out
            have cB2 := cB henv
            clear g2 g3 g4 hem cB henv hSR hgg hbk hX hac hae
            go_wp2_with fail
            refine (cT _).mono ?_
            rintro e w5 ⟨rfl, rfl⟩
            go_wp2_with fail
            refine cB2.mono ?_
            rintro e w6 ⟨rfl, ve6, hR6, hE6, hB6, hK6⟩
            have HB6 := Lib.hid (HB.out.trans hB6)
            have HGA6 := Lib.hid (hK6 _ _ _ HGA.out (by decide) (by omega))
            have H06 := Lib.hid (hK6 _ _ _ H0.out (by decide) (by omega))
            have HR6 := Lib.hid hR6
            have HE6 := Lib.hid hE6
            have hz6 : w4.heap.size ≤ w6.heap.size := by have := hB6.size; omega
            clear hR6 hE6 hB6 hK6 cB2
            go_wp2_with fail
            go_roundw
            case rel => exact ⟨i + 1, [], _, ve6, by go_num, by omega, by simp, Lib.hid (World.ownsRow_nil _ _ _ _), HR6, HE6, HGA6, H06, HG2, HB6, hz6⟩
            case measure => simp [intOf]; omega
        · have hem2 : (ba X).toList.isEmpty = false := by rw [hem]; simpa using hX
          have HG2 := Lib.hid (g2 hX)
          clear g2 g3 g4 hem hX
          go_wp2_with fail
          refine (cT _).mono ?_
          rintro e w5 ⟨rfl, rfl⟩
          go_wp2_with (at_builtin; refine wpList_append_row rfl _ _ 45 rfl w4.heap.size 9 i0 _ 1 16 Tryz.underlying45 hi iz0 iz1 iz2 rfl (by decide) _ _ _ rfl (HU.out.alloc _) _ 1 _ rfl (lit_row _ _ _ rfl rfl) (one_lit rfl) ?c3 ?c4 ?c5 ?_)
          case c3 => unfold maxLen; omega
          case c4 => omega
          case c5 => simp; omega
          intro v6 w6 how6 hgrow6 _
          have how7 : w6.ownsRow w4.heap.size 9 1 v6 (acc ++ [X]).length (scells (acc ++ [X])) := by rw [List.length_append, scells_snoc]; exact how6
          have hgne : (Value.slice au acc.length cu).ownBlock ≠ some ga := by
            intro e
            have := own_from HU.out e
            omega
          have hb5 := below1 (.cells #[.string (ba X)] 9) (Nat.le_refl w5.heap.size)
          have HGA6 := Lib.hid (blk_grown (blk_stay HGA.out hb5) hgrow6 hgne)
          have HR6 := Lib.hid (app_grow HR.out hb5 (HU.out.alloc _) (by decide) hgrow6)
          have H06 := Lib.hid (app_grow H0.out hb5 (HU.out.alloc _) (by decide) hgrow6)
          have HE6 := Lib.hid ((HE.out.stays hb5).grown9 (HU.out.alloc _) hgrow6)
          have HB6 := Lib.hid (app_step (own_low (HU.out.alloc _) (by omega)) (HB.out.alloc hszr _) (by simp; omega) hgrow6)
          have HO7 := Lib.hid how7
          have hz6 : w4.heap.size ≤ w6.heap.size := by have := hgrow6.size; simp at this; omega
          clear how6 how7 hgrow6 hgne
          go_wp2_with fail
          go_roundw
          case rel => exact ⟨i + 1, acc ++ [X], evs, ve, by go_num, by omega, by simp; omega, HO7, HR6, HE6, HGA6, H06, HG2, HB6, hz6⟩
          case measure => simp [intOf]; omega
      · obtain rfl : i = All.length := by omega
        have hiz : ¬ (All.length : Int) < (All.length : Int) := by omega
        have hg := HG.out
        rw [List.drop_length] at hg
        obtain ⟨_, hev⟩ : acc = [] ∧ evs = fin := hg
        subst hev
        obtain ⟨ae, ce, rfl⟩ := HE.out.len
        have cSo := Sort_any (.slice ae evs.length ce) evs wr HE.out.toR hn HOR.out HFT.out
        obtain ⟨t0, t1, t2, t3, t4, t5, t6, t7, t8, t9, tf, tl⟩ := blk10 HR.out
        clear HG
        go_wp2_with fail
        refine cSo.mono ?_
        rintro e w5 ⟨ve5, rfl, hE5, hb5⟩
        obtain ⟨ae5, ce5, rfl⟩ := hE5.len
        have HR5 := Lib.hid (blk_stay HR.out hb5)
        have H05 := Lib.hid (blk_stay H0.out hb5)
        have HE5 := Lib.hid hE5
        have HB5 := Lib.hid (below_grow HB.out hszr hb5)
        clear hb5 hE5 cSo t0 t1 t2 t3 t4 t5 t6 t7 t8 t9 tf tl
        obtain ⟨t0, t1, t2, t3, t4, t5, t6, t7, t8, t9, tf, tl⟩ := blk10 HR5.out
        go_wp2_with fail
        have hne : w.heap.size ≠ w2.heap.size := by omega
        have hne2 : w2.heap.size ≠ w.heap.size := by omega
        have R6 := blk_set (o := 7) (u := .slice ae5 evs.length ce5) HR5.out
        refine world_as (fun W => W.heap[w2.heap.size]? = some (.cells #[.int .u8 (r : Int), .string ⟨#[]⟩, .string ⟨#[]⟩, .int .u8 (r : Int), .bool true, .int .i64 (evs.length : Int), .slice none 0 0, .slice ae5 evs.length ce5, .slice none 0 0, .slice none 0 0] 44 (0, 0)) ∧ EvsO W wr.heap.size (.slice ae5 evs.length ce5) evs ∧ W.heap[w.heap.size]? = some (.cells #[.string ⟨#[]⟩, .string ⟨#[]⟩, .int .u8 0, .bool false, .int .i64 0, .slice none 0 0, .slice none 0 0, .slice none 0 0] 27 (0, 0)) ∧ Below w.heap.size w W)
          ⟨blk_set (o := 5) (u := .int .i64 (evs.length : Int)) R6, (HE5.out.far (o := 7) (u := .slice ae5 evs.length ce5) HR5.out (by decide) (by decide) (by decide)).far (o := 5) (u := .int .i64 (evs.length : Int)) R6 (by decide) (by decide) (by decide), blk_other (blk_other H05.out hne) hne, (HB5.out.setCell (p := ⟨w2.heap.size, 7, none⟩) (by omega) _).setCell (p := ⟨w2.heap.size, 5, none⟩) (by omega) _⟩ ?_
        rintro W ⟨hR7, hE7, h07, hB7⟩
        have HE7 := Lib.hid hE7
        have HB7 := Lib.hid hB7
        clear hE7 hB7 HE HE5 HR HR5 H0 H05 HB HB5 R6 HU HGA HA HC t0 t1 t2 t3 t4 t5 t6 t7 t8 t9 tf tl
        obtain ⟨t0, t1, t2, t3, t4, t5, t6, t7, t8, t9, tf, tl⟩ := blk10 hR7
        obtain ⟨d0, d1, d2, d3, d4, d5, d6, d7, df, dl⟩ := blk8 h07
        go_region
        go_wp2_with fail
        refine post_drew (fun W' => W'.heap[w.heap.size]? = some (.cells #[.string ⟨#[]⟩, .string ⟨#[]⟩, .int .u8 (r : Int), .bool true, .int .i64 (evs.length : Int), .slice none 0 0, .slice ae5 evs.length ce5, .slice none 0 0] 27 (0, 0)) ∧ EvsO W' wr.heap.size (.slice ae5 evs.length ce5) evs ∧ Below w.heap.size w W') ⟨set8 h07, HE7.out.far8 h07 (by decide) (by decide) (by decide), below8 HB7.out (Nat.le_refl _)⟩ ?_
        rintro W' ⟨q1, q2, q3⟩
        exact bodyPost_ret (results_cell_tmp Tryz.results6 _ W'.drew w.heap.size _ _ _ _ rfl q1 Tryz.underlying27 (by kernel_rfl)) rfl ⟨_, rfl, ⟨.slice none 0 0, .slice ae5 evs.length ce5, .slice none 0 0, rfl, ⟨rfl, Or.inl ⟨rfl, rfl⟩⟩, EvsR.below q2.toR (Below.refl _ _).drew, ⟨rfl, Or.inl ⟨rfl, rfl⟩⟩⟩, q3.drew⟩
end Go.Proofs.YtgiaohccebolpaaGreatDoor
