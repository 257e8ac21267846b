import Derived.Test.YtgiaohccebolpaaGreatDoorQ10
import Derived.Test.YtgiaohccebolpaaGreatDoorQ17
import Derived.Test.YtgiaohccebolpaaGreatDoorQ9
import Derived.Deep.RegionLaw
import Derived.Lib.SplitLaws
namespace Go.Proofs.YtgiaohccebolpaaGreatDoor
open Go Go.RowKit
open Go.Lib hiding intOf
set_option linter.unusedVariables false
/-! ### the reader of blocks -/
theorem blk10 {w : World} {b : Nat} {a0 a1 a2 a3 a4 a5 a6 a7 a8 a9 : Value} {E : TypeId} (h : w.heap[b]? = some (.cells #[a0, a1, a2, a3, a4, a5, a6, a7, a8, a9] E (0, 0))) :
    w.cell? ⟨b, 0, none⟩ = some a0 ∧ w.cell? ⟨b, 1, none⟩ = some a1 ∧ w.cell? ⟨b, 2, none⟩ = some a2 ∧ w.cell? ⟨b, 3, none⟩ = some a3 ∧ w.cell? ⟨b, 4, none⟩ = some a4 ∧ w.cell? ⟨b, 5, none⟩ = some a5 ∧ w.cell? ⟨b, 6, none⟩ = some a6 ∧ w.cell? ⟨b, 7, none⟩ = some a7 ∧ w.cell? ⟨b, 8, none⟩ = some a8 ∧ w.cell? ⟨b, 9, none⟩ = some a9 ∧ (∀ o, w.frozen? ⟨b, o, none⟩ = false) ∧ b < w.heap.size := by
  refine ⟨?_, ?_, ?_, ?_, ?_, ?_, ?_, ?_, ?_, ?_, fun o => ?_, heap_lt h⟩
  all_goals simp [World.cell?, World.frozen?, h]
def scells (l : List (List UInt8)) : List Value := l.map (fun x => .string (ba x))
theorem scells_len (l : List (List UInt8)) : (scells l).length = l.length := by simp [scells]
abbrev StrR (w : World) (v : Value) (l : List (List UInt8)) : Prop := RowR w 1 v l.length (scells l)
theorem StrR.at {w : World} {n c g off : Nat} {l : List (List UInt8)} (h : StrR w (.slice (some ⟨g, off, none⟩) n c) l) (hn : n = l.length) (i : Nat) (hi : i < l.length) : w.cell? ⟨g, off + i, none⟩ = some (.string (ba (l.getD i []))) := by
  subst hn
  refine h.cellAt i _ ?_
  rw [scells, List.getElem?_map, List.getElem?_eq_getElem hi, getD_of hi]; rfl
abbrev rdC (rate : Nat) (drop : Bool) (ve : Value) : Array Value := #[.int .u8 (rate : Int), .string ⟨#[]⟩, .string ⟨#[]⟩, .int .u8 (rate : Int), .bool drop, .int .i64 0, .slice none 0 0, ve, .slice none 0 0, .slice none 0 0]
def KeepC (b : Nat) (w w' : World) : Prop := ∀ (k : Nat) (cs : Array Value) (T : TypeId), w.heap[k]? = some (.cells cs T (0, 0)) → T ≠ 63 → k ≠ b → w'.heap[k]? = some (.cells cs T (0, 0))
/-- What a block's lines say. -/
structure BlkOk (r : Nat) (num : List UInt8) (m1 m2 : Nat) (f1 f2 : Int) (rows : List (List UInt8)) (n : Nat) : Prop where
  dg : digs num
  ge1 : 1 ≤ num.length
  le9 : num.length ≤ 9
  ms1 : m1 ≤ 86486400
  ms2 : m2 ≤ 86486400
  fr1 : quo ((m1 : Int) * 120) (ticksOf r) = f1
  fr2 : quo ((m2 : Int) * 120) (ticksOf r) = f2
  cp1 : f1 * ticksOf r ≤ 10378368000
  cp2 : f2 * ticksOf r ≤ 10378368000
  rw1 : 1 ≤ rows.length
  rw4 : rows.length ≤ 4
  len : ∀ x ∈ rows, x.length ≤ 262144
  ev : evE [] ⟨(n : Int), f1, f2, [], 1, [], rows.map pm⟩ = 0
theorem tot_mem {L : Rw} {x : Rn} (h : x ∈ L) : x.t.length ≤ tot L := by
  induction L with
  | nil => cases h
  | cons y L ih =>
    have e : tot (y :: L) = y.t.length + tot L := by simp [tot]
    rcases List.mem_cons.1 h with rfl | h
    · omega
    · have := ih h; omega
theorem pmGo_fit : ∀ (n : Nat) (out : Rw) (i u : Bool) (t s : List UInt8), (∀ x ∈ out, x.r = []) → (pmGo n out i u t s).length ≤ out.length + 1 + n ∧ tot (pmGo n out i u t s) ≤ tot out + t.length + s.length ∧ ∀ x ∈ pmGo n out i u t s, x.r = []
  | 0, out, i, u, t, s, h => by
    refine ⟨by simp [pmGo], by simp [pmGo, tot], fun x hx => ?_⟩
    simp only [pmGo, List.mem_append, List.mem_singleton] at hx
    rcases hx with hx | rfl
    · exact h x hx
    · rfl
  | n + 1, out, i, u, t, s, h => by
    have hend : ∀ x ∈ out ++ [rnS t i u], x.r = [] := by
      intro x hx
      rcases List.mem_append.1 hx with hx | hx
      · exact h x hx
      · simp at hx; subst hx; rfl
    have ht : tot (out ++ [rnS t i u]) = tot out + t.length := by rw [tot_app]; simp [tot]
    unfold pmGo
    split
    · exact ⟨by simp, by omega, hend⟩
    · rename_i hs
      have hl : 0 < s.length := List.length_pos_iff.2 hs
      split
      · obtain ⟨a, b, c⟩ := pmGo_fit n out i u (t ++ [s.getD 0 0]) (s.drop 1) h
        exact ⟨by omega, by rw [List.length_append, List.length_singleton, List.length_drop] at b; omega, c⟩
      · obtain ⟨a, b, c⟩ := pmGo_fit n (out ++ [rnS t i u]) (nxI (tagN s) i) (nxU (tagN s) u) [] (s.drop (tgW (tagN s))) hend
        rw [List.length_append, List.length_singleton] at a
        rw [ht, List.length_drop, List.length_nil] at b
        exact ⟨by omega, by omega, c⟩
theorem pm_fit (l : List UInt8) (h : l.length ≤ 1000000) : rowFit (pm l) := by
  obtain ⟨a, b, c⟩ := pmGo_fit l.length [] false false [] l (fun x h => by cases h)
  have ht : tot (pm l) = tot (pmR [] false false [] l) := by
    have h2 := foldn_tot (pmR [] false false [] l) []
    have e0 : tot [] = 0 := rfl
    rw [e0, Nat.zero_add] at h2
    exact h2
  have hn := foldn_len (pmR [] false false [] l) []
  have hb : tot (pm l) ≤ 1000000 := by rw [ht]; unfold pmR; simp [tot] at b ⊢; omega
  refine ⟨?_, by omega, fun x hx => ⟨by have := tot_mem hx; omega, ?_⟩⟩
  · show (normR _).length ≤ _
    unfold normR
    unfold pmR at hn ⊢
    simp at hn a
    omega
  · have hr : ∀ y ∈ pm l, y.r = [] := fold_mem (P := fun y => y.r = []) (pmR [] false false [] l) [] (fun y h => by cases h) c (fun x _ y h => h)
    rw [hr x hx]; simp
theorem RowsO.push {w w' : World} {B : Nat} {v v' u : Value} {L : List Rw} {r : Rw} {vs : List Value} (how : w.ownsRow B 71 1 v L.length vs) (hr : ∀ i, i < L.length → ∃ u, vs[i]? = some u ∧ RunsO w u (L.getD i [])) (hu : RunsO w u r) (ho' : w'.ownsRow B 71 1 v' (L.length + 1) (vs ++ [u])) (hg : w.grownBy w' v.ownBlock) : RowsO w' B v' (L ++ [r]) := by
  have hvl : vs.length = L.length := by have := how.1; omega
  refine ⟨vs ++ [u], by rw [List.length_append]; exact ho', fun k hk => ?_⟩
  rw [List.length_append, List.length_singleton] at hk
  rcases Nat.lt_or_ge k L.length with h | h
  · obtain ⟨z, e, hz⟩ := hr k h
    refine ⟨z, by rw [List.getElem?_append_left (by omega)]; exact e, ?_⟩
    rw [getD_appL _ _ _ _ h]
    exact own_grown hz how (by decide) hg
  · obtain rfl : k = L.length := by omega
    refine ⟨u, by rw [List.getElem?_append_right (by omega), hvl, Nat.sub_self]; rfl, ?_⟩
    rw [getD_end]
    exact own_grown hu how (by decide) hg
theorem take_pm (rows : List (List UInt8)) (i : Nat) (h : i < rows.length) : (rows.map pm).take (i + 1) = (rows.map pm).take i ++ [pm (rows.getD i [])] := by
  rw [List.take_succ_eq_append_getElem (by rw [List.length_map]; exact h), List.getElem_map, getD_of h]
set_option maxHeartbeats 4000000 in
set_option maxRecDepth 100000 in
theorem block_ok (r : Nat) (hr : r < 256) (hok : okRate r = true) (drop : Bool) (B b : Nat) (ve : Value) (evs : List Ev) (num : List UInt8) (m1 m2 : Nat) (f1 f2 : Int) (rows : List (List UInt8)) (vl : Value) (first : Int) (w : World)
    (hbk : BlkOk r num m1 m2 f1 f2 rows (evs.length + 1)) (hb : w.heap[b]? = some (.cells (rdC r drop ve) 44 (0, 0))) (hE : EvsO w B ve evs) (hB : B ≤ b) (hBw : B ≤ w.heap.size) (hn : evs.length < 400) (hl : StrR w vl (num :: timL m1 m2 :: rows)) (hf0 : 0 ≤ first) (hf1 : first ≤ 1000000) (env : Env w) :
    Calls Tryz.prog 15 #[ptr b, vl, .int .i64 first] w fun e w' => e = .returned (.tuple #[]) ∧ ∃ ve', w'.heap[b]? = some (.cells (rdC r drop ve') 44 (0, 0)) ∧ EvsO w' B ve' (evs ++ [⟨((evs.length + 1 : Nat) : Int), f1, f2, [], 1, [], rows.map pm⟩]) ∧ Below B w w' ∧ KeepC b w w' := by
  have cN := fun w => number_any num hbk.dg hbk.ge1 hbk.le9 w
  have cT := fun w => times_any m1 m2 (by have := hbk.ms1; omega) (by have := hbk.ms2; omega) w
  have cF1 := fun w => fromMillis_any r hr hok (m1 : Int) (by omega) (by have := hbk.ms1; omega) (by rw [hbk.fr1]; exact hbk.cp1) w
  have cF2 := fun w => fromMillis_any r hr hok (m2 : Int) (by omega) (by have := hbk.ms2; omega) (by rw [hbk.fr2]; exact hbk.cp2) w
  rw [hbk.fr1] at cF1
  rw [hbk.fr2] at cF2
  have hrn := hbk.rw1
  have hr4 := hbk.rw4
  have HL := Lib.hid hbk.len
  have HEV := Lib.hid hbk.ev
  have hlen : (num :: timL m1 m2 :: rows).length = rows.length + 2 := rfl
  obtain ⟨a, c, rfl⟩ := RowR.len hl
  obtain ⟨g, off, rfl, hg, _⟩ := hl.addr (by omega)
  have hc := hl.cap
  have s0 := StrR.at hl rfl 0 (by omega)
  have s1 := StrR.at hl rfl 1 (by omega)
  change w.cell? ⟨g, off + 0, none⟩ = some (.string (ba num)) at s0
  change w.cell? ⟨g, off + 1, none⟩ = some (.string (ba (timL m1 m2))) at s1
  rw [Nat.add_zero] at s0
  have HLR := Lib.hid hl
  have HBb := Lib.hid hb
  have HE := Lib.hid hE
  clear hbk hl hb hE
  rw [hlen] at *
  generalize ba num = NU at *
  generalize ba (timL m1 m2) = TI at *
  obtain ⟨i0, hi, iz0, iz1, iz2⟩ := info_parts info71
  obtain ⟨j0, hj, jz0, jz1, jz2⟩ := info_parts info63
  obtain ⟨ae, ce, rfl⟩ := HE.out.len
  obtain ⟨t0, t1, t2, t3, t4, t5, t6, t7, t8, t9, tf, tl⟩ := blk10 HBb.out
  go_enter Tryz.func15, Tryz.ntmps15
  go_wp2_with fail
  refine (cN _).mono ?_
  rintro e w1 ⟨rfl, rfl⟩
  have hz2 : ¬ ((rows.length : Int) + 2 = 1) := by omega
  have hz3 : (1 : Int) ≤ ((rows.length : Int) + 2) := by omega
  have hz4 : ¬ (400 : Int) ≤ (evs.length : Int) := by omega
  go_wp2_with fail
  refine (cT _).mono ?_
  rintro e w2 ⟨rfl, hb2⟩
  have HB2 := Lib.hid hb2
  have HBb := Lib.hid (blk_stay HBb.out hb2)
  have HE := Lib.hid (HE.out.stays hb2)
  have HLR := Lib.hid (HLR.out.below hb2)
  have env := env.below hb2
  have hbl := heap_lt HBb.out
  clear hb2 cN cT s0 s1 t0 t1 t2 t3 t4 t5 t6 t7 t8 t9 tf tl
  obtain ⟨t0, t1, t2, t3, t4, t5, t6, t7, t8, t9, tf, tl⟩ := blk10 HBb.out
  have hX0 := heap_alloc_new w2 (.cells #[.int .i64 ((evs.length : Int) + 1), .int .i64 0, .int .i64 0, .string ⟨#[]⟩, .int .u8 1, .string ⟨#[]⟩, .slice none 0 0] 63)
  go_wp2_with fail
  refine (cF1 _).mono ?_
  rintro e w3 ⟨rfl, hb3⟩
  have hX3 := blk_stay hX0 hb3
  have hb23 := (below1 (.cells #[.int .i64 ((evs.length : Int) + 1), .int .i64 0, .int .i64 0, .string ⟨#[]⟩, .int .u8 1, .string ⟨#[]⟩, .slice none 0 0] 63) (Nat.le_refl w2.heap.size)).trans (hb3.mono (by simp))
  clear hX0 hb3 cF1 t0 t1 t2 t3 t4 t5 t6 t7 t8 t9 tf tl
  obtain ⟨t0, t1, t2, t3, t4, t5, t6, t7, t8, t9, tf, tl⟩ := blk10 (blk_stay HBb.out hb23)
  obtain ⟨x0, x1, x2, x3, x4, x5, x6, xf, xl⟩ := blk7 hX3
  have hbx : b ≠ w2.heap.size := by omega
  have hxb : w2.heap.size ≠ b := by omega
  go_wp2_with fail
  refine (cF2 _).mono ?_
  rintro e w4 ⟨rfl, hb4⟩
  have hX4 := blk_stay (blk_set (o := 1) (u := .int .i64 f1) hX3) hb4
  have hb24 := below_grow (hb23.setCell (p := ⟨w2.heap.size, 1, none⟩) (Nat.le_refl _) (.int .i64 f1)) (by simp; exact hb23.size) hb4
  clear hX3 hb23 hb4 cF2 t0 t1 t2 t3 t4 t5 t6 t7 t8 t9 tf tl x0 x1 x2 x3 x4 x5 x6 xf xl
  obtain ⟨x0, x1, x2, x3, x4, x5, x6, xf, xl⟩ := blk7 hX4
  have HX4 := Lib.hid hX4
  have HB24 := Lib.hid hb24
  have hrz : (1 : Int) ≤ ((rows.length : Int) + 1) := by omega
  clear hX4 hb24
  go_wp2_with fail
  have HS := Lib.hid (take_pm rows)
  go_loopw [95] (fun v wx => ∃ (i : Nat) (va : Value), v = .int .i64 i ∧ i ≤ rows.length ∧ Hid (wx.heap[w2.heap.size]? = some (.cells #[.int .i64 ((evs.length : Int) + 1), .int .i64 f1, .int .i64 f2, .string ⟨#[]⟩, .int .u8 1, .string ⟨#[]⟩, va] 63 (0, 0))) ∧ Hid (RowsO wx w2.heap.size va ((rows.map pm).take i)) ∧ Hid (Below w2.heap.size w2 wx)) (fun v _ => rows.length - (intOf v).toNat)
  case atStart => exact ⟨0, .slice none 0 0, rfl, Nat.zero_le _, Lib.hid (blk_set HX4.out), Lib.hid ⟨[], World.ownsRow_nil _ _ _ _, fun i h => absurd h (by simp)⟩, Lib.hid (HB24.out.setCell (p := ⟨w2.heap.size, 2, none⟩) (Nat.le_refl _) _)⟩
  case round =>
    clear HX4 HB24 x0 x1 x2 x3 x4 x5 x6 xf xl
    obtain ⟨i, va, rfl, hil, HX, HR, HB⟩ := hrel
    have hsz := HB.out.size
    by_cases hlt : i < rows.length
    · have hiz : (i : Int) < (rows.length : Int) := by omega
      have hli : ((rows.map pm).take i).length = i := by rw [List.length_take, List.length_map]; omega
      obtain ⟨vs, how, hrr⟩ := HR.out
      rw [hli] at how
      obtain ⟨av, cv, rfl⟩ := own_len how
      have hln := (HLR.out.below HB.out).cellAt (i + 2) _ (by rw [scells, List.getElem?_map, List.getElem?_eq_getElem (by rw [List.length_cons, List.length_cons]; omega)]; rfl)
      have hcl : wr.cell? ⟨g, off + 1 + 1 + i, none⟩ = some (.string (ba (rows.getD i []))) := by
        have e1 : off + (i + 2) = off + 1 + 1 + i := by omega
        rw [e1] at hln
        rw [hln, getD_of hlt]; rfl
      have hxl : (rows.getD i []).length ≤ 1000000 := by
        have := HL.out _ (List.getElem_mem hlt)
        rw [getD_of hlt]; omega
      have cP := fun w => pmark_any (rows.getD i []) hxl w
      have HS2 := Lib.hid (HS.out i hlt)
      clear hln hxl
      generalize rows.getD i [] = X at *
      go_upto_region 20 with fail
      have hX := HX.out
      obtain ⟨x0, x1, x2, x3, x4, x5, x6, xf, xl⟩ := blk7 hX
      go_region_law (first
        | (refine step_append_row (by rfl) _ _ _ (by rfl) w2.heap.size 71 i0 _ 1 24 Tryz.underlying61 hi iz0 iz1 iz2 rfl (by decide) _ _ _ (by rfl) (how5.alloc _) _ 1 _ (by rfl) (lit_row _ _ _ (by simp) rfl) (one_lit rfl) (by unfold maxLen; omega) (by omega) (by simp; omega) ?_
           intro v6 w6 hown6 hgrow6 _
           obtain ⟨a6, c6, rfl⟩ := own_len hown6
           have hX6 := app_grow hX5 (below1 _ (Nat.le_refl _)) (how5.alloc _) (by decide) hgrow6
           obtain ⟨z0, z1, z2, z3, z4, z5, z6, zf, zl⟩ := blk7 hX6)
        | (go_simp
           go_at_call 36
           refine (cP _).mono ?_
           rintro e w5 ⟨va5, rfl, ho5, hb5'⟩
           have hb5 : Below wr.heap.size wr w5 := ⟨hb5'.os, hb5'.tape, hb5'.output, hb5'.size, hb5'.block⟩
           obtain ⟨a5, c5, rfl⟩ := own_len ho5
           have hX5 := blk_stay hX hb5
           have how5 := own_stays how hb5
           have hbr5 := below_grow HB.out hsz hb5
           obtain ⟨y0, y1, y2, y3, y4, y5, y6, yf, yl⟩ := blk7 hX5))
      all_goals
        have hP := RowsO.push (L := (rows.map pm).take i) (r := pm X) (by rw [hli]; exact how5.alloc _) (fun k hk => by obtain ⟨u, e, hu⟩ := hrr k hk; exact ⟨u, e, (own_stays hu hb5).alloc _⟩) ((own_base ho5).alloc _) (by rw [hli]; exact hown6) hgrow6
        rw [← HS2.out] at hP
        have HP := Lib.hid (hP.far (o := 6) (u := .slice a6 (i + 1) c6) hX6 (by decide) (by decide))
        have HX2 := Lib.hid (blk_set (o := 6) (u := .slice a6 (i + 1) c6) hX6)
        have HB6 := Lib.hid ((app_step (how5.alloc _) (hbr5.alloc (by have := hbr5.size; omega) _) (by have := hbr5.size; simp; omega) hgrow6).setCell (p := ⟨w2.heap.size, 6, none⟩) (Nat.le_refl _) (.slice a6 (i + 1) c6))
        clear hP
        go_wp2_with fail
        go_roundw
        case rel => exact ⟨i + 1, _, by go_num, by omega, HX2, HP, HB6⟩
        case measure => simp [intOf]; omega
    · obtain rfl : i = rows.length := by omega
      have hiz : ¬ (rows.length : Int) < (rows.length : Int) := by omega
      have hX := HX.out
      obtain ⟨x0, x1, x2, x3, x4, x5, x6, xf, xl⟩ := blk7 hX
      have hR := HR.out
      rw [List.take_of_length_le (by simp)] at hR
      have HR := Lib.hid hR
      clear hR
      obtain ⟨av, cv, rfl⟩ := HR.out.len
      go_wp2_with fail
      have hfit : evFit ⟨((evs.length + 1 : Nat) : Int), f1, f2, [], 1, [], rows.map pm⟩ := ⟨by show 1 < 256; omega, by simp, by simp; omega, fun x hx => by
        obtain ⟨y, hy, rfl⟩ := List.mem_map.1 hx
        exact pm_fit y (by have := HL.out y hy; omega)⟩
      have cE := fun w' h1 h2 h3 => echeck_any (.slice av (rows.map pm).length cv) (.slice none 0 0) ⟨((evs.length + 1 : Nat) : Int), f1, f2, [], 1, [], rows.map pm⟩ [] w' h1 h2 hfit (fun r hr => by cases hr) (by decide) h3
      rw [HEV.out] at cE
      dsimp only at cE
      rw [show ((evs.length + 1 : Nat) : Int) = (evs.length : Int) + 1 by omega, List.length_map] at cE
      rw [List.length_map] at HR
      rw [show (ba [] : ByteArray) = ⟨#[]⟩ from rfl, show (((1 : Nat) : Int)) = 1 from rfl] at cE
      have hG0 : RgsR wr (.slice none 0 0) [] := ⟨rfl, Or.inl ⟨rfl, rfl⟩⟩
      have henv := env.below HB.out
      clear hfit
      go_wp2_with fail
      refine (cE _ HR.out.toR hG0 henv).mono ?_
      rintro e w7 ⟨rfl, hb7⟩
      have hX7 := blk_stay hX hb7
      have hbW := below_grow HB.out hsz hb7
      have hR7 := HR.out.stays hb7
      have hBb7 := blk_stay HBb.out hbW
      obtain ⟨p, hp, how7, hpr⟩ := HE.out.stays hbW
      clear x0 x1 x2 x3 x4 x5 x6 xf xl hb7 cE henv hG0
      obtain ⟨x0, x1, x2, x3, x4, x5, x6, xf, xl⟩ := blk7 hX7
      obtain ⟨t0, t1, t2, t3, t4, t5, t6, t7, t8, t9, tf, tl⟩ := blk10 hBb7
      have hB7 : B ≤ w7.heap.size := by have := HB2.out.size; have := hbW.size; omega
      go_wp2_with fail
      go_region_law (first
        | (refine step_append_row (by rfl) _ _ _ (by rfl) B 63 j0 _ 7 88 Tryz.underlying24 hj jz0 jz1 jz2 rfl (by decide) _ _ _ (by rfl) ((how7.alloc _).drew) _ 1 _ (by rfl) (RowR.drew (lit_row _ _ _ (by simp) rfl)) (one_lit rfl) (by unfold maxLen; omega) (by omega) (by simp; omega) ?_
           intro v8 w8 hown8 hgrow8 _
           obtain ⟨a8, c8, rfl⟩ := own_len hown8
           have hBb8 := app_grow hBb7 (below1 _ (Nat.le_refl _)).drew ((how7.alloc _).drew) (by decide) hgrow8
           obtain ⟨z0, z1, z2, z3, z4, z5, z6, z7, z8, z9, zf, zl⟩ := blk10 hBb8))
      all_goals
        have hbw7 : Below w1.heap.size w1 w7 := below_grow HB2.out HB2.out.size hbW
        have hP := EvsO.push (e := ⟨(evs.length : Int) + 1, f1, f2, [], 1, [], rows.map pm⟩) hp ((how7.alloc _).drew) (fun x hx => (hpr x hx).stays (below1 _ (Nat.le_refl _)).drew) ((hR7.low (Nat.zero_le _)).stays (below1 _ (Nat.le_refl _)).drew) hown8 hgrow8
        have hP2 := hP.far (o := 7) (u := .slice a8 (evs.length + 1) c8) hBb8 (by decide) (by decide) (by decide)
        have hB8 := (app_step ((how7.alloc _).drew) (((hbw7.mono hBw).alloc hB7 _).drew) (by simp; omega) hgrow8).setCell (p := ⟨b, 7, none⟩) hB (.slice a8 (evs.length + 1) c8)
        have hK : KeepC b w1 (w8.setCell ⟨b, 7, none⟩ (.slice a8 (evs.length + 1) c8)) := fun k cs T hk hT hne => blk_other (app_grow (blk_stay hk hbw7) (below1 _ (Nat.le_refl _)).drew ((how7.alloc _).drew) hT hgrow8) hne
        go_end0
        exact ⟨rfl, _, blk_set hBb8, hP2, hB8, hK⟩
end Go.Proofs.YtgiaohccebolpaaGreatDoor
namespace Go.Proofs.YtgiaohccebolpaaGreatDoor
open Go Go.RowKit
open Go.Lib hiding intOf
set_option linter.unusedVariables false
/-! ### a file's lines -/
def joinL (L : List (List UInt8)) : List UInt8 := L.flatMap (fun l => l ++ [10])
abbrev lfS : ByteArray := ⟨#[10]⟩
theorem idx_no (l : List UInt8) (h : 10 ∉ l) : Lib.indexByte l 10 = -1 := by
  induction l with
  | nil => rfl
  | cons b l ih =>
    have hb : (b == 10) = false := by simpa using fun e => h (by rw [e]; simp)
    unfold Lib.indexByte
    rw [hb, ih (fun hm => h (List.mem_cons_of_mem _ hm))]; rfl
theorem idx_at (l t : List UInt8) (h : 10 ∉ l) : Lib.indexByte (l ++ 10 :: t) 10 = (l.length : Int) := by
  induction l with
  | nil => rfl
  | cons b l ih =>
    have hb : (b == 10) = false := by simpa using fun e => h (by rw [e]; simp)
    have ih' := ih (fun hm => h (List.mem_cons_of_mem _ hm))
    show Lib.indexByte (b :: (l ++ 10 :: t)) 10 = _
    unfold Lib.indexByte
    rw [hb, ih']
    have hne : ((l.length : Int) == -1) = false := by simp
    rw [hne]
    simp
theorem indexB_no (l : List UInt8) (h : 10 ∉ l) : Lib.indexB (ba l) lfS = -1 := by
  show Lib.index l [10] = -1
  rw [Lib.index_one, idx_no l h]
theorem indexB_at (l t : List UInt8) (h : 10 ∉ l) : Lib.indexB (ba (l ++ 10 :: t)) lfS = (l.length : Int) := by
  show Lib.index (l ++ 10 :: t) [10] = _
  rw [Lib.index_one, idx_at l t h]
theorem split_lines : ∀ L : List (List UInt8), (∀ l ∈ L, 10 ∉ l) → Lib.countB (ba (joinL L)) lfS = L.length ∧ Lib.splitB lfS 0 L.length (ba (joinL L)) = L.map ba ++ [ba []]
  | [], _ => ⟨Lib.countB_miss _ _ (indexB_no [] (by simp)), rfl⟩
  | l :: L, h => by
    have hl := h l List.mem_cons_self
    obtain ⟨ih1, ih2⟩ := split_lines L (fun x hx => h x (List.mem_cons_of_mem _ hx))
    have e : joinL (l :: L) = l ++ 10 :: joinL L := by simp [joinL]
    have hx := indexB_at l (joinL L) hl
    have e0 : (ba (l ++ 10 :: joinL L)).extract 0 (l.length + 0) = ba l := by
      rw [ext_ba, List.drop_zero, Nat.add_zero, List.take_left']; rfl
    have e1 : (ba (l ++ 10 :: joinL L)).extract (l.length + lfS.size) (ba (l ++ 10 :: joinL L)).size = ba (joinL L) := by
      rw [ext_ba, ba_size, List.take_length]
      show ba (List.drop (l.length + 1) (l ++ 10 :: joinL L)) = _
      rw [List.drop_append, List.drop_eq_nil_of_le (by omega)]
      simp
    rw [e]
    constructor
    · rw [Lib.countB_hit _ _ l.length (by decide) hx, e1, ih1, List.length_cons]; omega
    · rw [List.length_cons, Lib.splitB_hit _ _ _ _ l.length hx, e0, e1, ih2]; rfl
/-- The lines are blocks that can be read. -/
def Good (r : Nat) : List (List UInt8) → List (List UInt8) → List Ev → List Ev → Prop
  | [], acc, evs, fin => acc = [] ∧ evs = fin
  | ln :: rest, acc, evs, fin => Lib.trimSuffix ln [13] = ln ∧
      (ln ≠ [] → Good r rest (acc ++ [ln]) evs fin) ∧ (ln = [] → acc = [] → Good r rest [] evs fin) ∧
      (ln = [] → acc ≠ [] → ∃ num m1 m2 f1 f2 rows, acc = num :: timL m1 m2 :: rows ∧ evs.length < 400 ∧ BlkOk r num m1 m2 f1 f2 rows (evs.length + 1) ∧ Good r rest [] (evs ++ [⟨((evs.length + 1 : Nat) : Int), f1, f2, [], 1, [], rows.map pm⟩]) fin)
theorem Good.cons {r : Nat} {ln : List UInt8} {rest acc : List (List UInt8)} {evs fin : List Ev} (h : Good r (ln :: rest) acc evs fin) : Lib.trimSuffix ln [13] = ln ∧
      (ln ≠ [] → Good r rest (acc ++ [ln]) evs fin) ∧ (ln = [] → acc = [] → Good r rest [] evs fin) ∧
      (ln = [] → acc ≠ [] → ∃ num m1 m2 f1 f2 rows, acc = num :: timL m1 m2 :: rows ∧ evs.length < 400 ∧ BlkOk r num m1 m2 f1 f2 rows (evs.length + 1) ∧ Good r rest [] (evs ++ [⟨((evs.length + 1 : Nat) : Int), f1, f2, [], 1, [], rows.map pm⟩]) fin) := h
theorem drop_str (L : List (List UInt8)) (i : Nat) (h : i < L.length) : L.drop i = L.getD i [] :: L.drop (i + 1) := by
  rw [List.drop_eq_getElem_cons h, getD_of h]
theorem info9 : (Tryz.prog.info? 9).map (fun i => (i.zero, i.size, i.bytes)) = some (some (.string ⟨#[]⟩), 1, 16) := by kernel_rfl
theorem scells_snoc (l : List (List UInt8)) (x : List UInt8) : scells (l ++ [x]) = scells l ++ [.string (ba x)] := by simp [scells]
end Go.Proofs.YtgiaohccebolpaaGreatDoor
