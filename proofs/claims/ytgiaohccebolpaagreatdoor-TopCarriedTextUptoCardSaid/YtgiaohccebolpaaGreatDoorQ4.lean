import Derived.Test.YtgiaohccebolpaaGreatDoorQ3
namespace Go.Proofs.YtgiaohccebolpaaGreatDoor
open Go Go.RowKit
open Go.Lib hiding intOf
set_option linter.unusedVariables false
theorem results_cell_tmp {fn : Func} {p t : Tmp} {ty : TypeId} (h : fn.results = #[.cell p ty, .tmp t]) (tmps : Array Value) (w : World) (g : Nat) (t' : TypeId) (cs : Array Value) (fr : Nat × Nat) (fs : Array Field)
    (hp : tmps.getD p undef = .pointer (some ⟨g, 0, none⟩)) (hg : w.heap[g]? = some (.cells cs t' fr))
    (hu : Tryz.prog.underlying ty = some (.struct fs)) (hi : (Tryz.prog.info? ty).map (·.size) = some cs.size) :
    (results fn tmps).run Tryz.prog w = .ok (.tuple #[.agg cs, tmps.getD t undef]) w := by
  have hp' : tmps[p]?.getD undef = .pointer (some ⟨g, 0, none⟩) := by simpa using hp
  simp [results, h, hp', asAddr, run_loadVar_row w g t' ty cs fr _ hg hu rfl hi]
def rg0 : Rg := ⟨⟨#[]⟩, 0, 0, 0, 0, 0, false⟩
def fnd (L : List Rg) (s : ByteArray) : Option Rg := if s.toList.isEmpty = true then some dflt else L.find? (fun r => r.nm.toList == s.toList)
theorem find_drop {α : Type} [Inhabited α] (p : α → Bool) (L : List α) (i : Nat) (h : i < L.length) : (L.drop i).find? p = if p (L.getD i default) = true then some (L.getD i default) else (L.drop (i + 1)).find? p := by
  rw [List.drop_eq_getElem_cons h, List.find?_cons, getD_of h]
  split <;> simp_all
def fndV (o : Option Rg) : Value := match o with
  | some r => .tuple #[r.v, .bool true]
  | none => .tuple #[rg0.v, .bool false]
set_option maxHeartbeats 8000000 in
set_option maxRecDepth 100000 in
theorem find_any (v : Value) (L : List Rg) (s : ByteArray) (w : World) (hR : RgsR w v L) (hn : L.length ≤ 1048576) :
    Calls Tryz.prog 65 #[v, .string s] w fun e w' => e = .returned (fndV (fnd L s)) ∧ Below w.heap.size w w' := by
  obtain ⟨a, c, rfl⟩ := RowR.len hR
  by_cases hs : s.toList.isEmpty = true
  · have e : fndV (fnd L s) = .tuple #[rgV ⟨#[]⟩ 11 4 0 32 2 true, .bool true] := by unfold fnd; rw [if_pos hs]; rfl
    rw [e]
    clear e
    go_enter Tryz.func65, Tryz.ntmps65
    go_wp2_with fail
    refine (default_any _).mono ?_
    rintro e w1 ⟨rfl, hb⟩
    have hblk : w1.heap[w.heap.size]? = some _ := blk_stay (heap_alloc_new w _) hb
    obtain ⟨c0, c1, c2, c3, c4, c5, c6, hf, hlt⟩ := blk7 hblk
    have HB := Lib.hid hblk
    clear hblk
    go_wp2_with fail
    exact bodyPost_ret (results_cell_tmp Tryz.results65 _ _ _ _ _ _ _ rfl (set7 HB.out) Tryz.underlying56 (by kernel_rfl)) rfl ⟨rfl, below7 (below_grow (below1 _ (Nat.le_refl _)) (by simp) hb) (Nat.le_refl _)⟩
  have hsz : s.toList.isEmpty = false := by simpa using hs
  have hE : fnd L s = (L.drop 0).find? (fun r => r.nm.toList == s.toList) := by unfold fnd; rw [if_neg hs, List.drop_zero]
  rw [hE]
  obtain ⟨Z, hZ⟩ : ∃ Z, (L.drop 0).find? (fun r => r.nm.toList == s.toList) = Z := ⟨_, rfl⟩
  rw [hZ]
  have HZ := Lib.hid hZ
  have HR := Lib.hid hR
  have HF := Lib.hid (find_drop (fun r : Rg => r.nm.toList == s.toList) L)
  clear hZ hE hs hR
  go_enter Tryz.func65, Tryz.ntmps65
  go_wp2_with fail
  go_loopw [13] (fun v wx => ∃ i : Nat, v = .int .i64 i ∧ i ≤ L.length ∧ Hid ((L.drop i).find? (fun r => r.nm.toList == s.toList) = Z) ∧ Below w.heap.size w wx ∧ wx.heap[w.heap.size]? = some (.cells #[.string ⟨#[]⟩, .int .i64 0, .int .i64 0, .int .i64 0, .int .i64 0, .int .u8 0, .bool false] 56 (0, 0))) (fun v _ => L.length - (intOf v).toNat)
  case atStart => exact ⟨0, rfl, Nat.zero_le _, HZ, below1 _ (Nat.le_refl _), heap_alloc_new w _⟩
  case round =>
    clear HZ
    obtain ⟨i, rfl, hi, HZ, hb, hblk⟩ := hrel
    have hBl := heap_lt hblk
    obtain ⟨d0, d1, d2, d3, d4, d5, d6, df, _⟩ := blk7 hblk
    have HB := Lib.hid hblk
    clear hblk
    have hsz := hb.size
    by_cases hlt : i < L.length
    · have hiz : (i : Int) < (L.length : Int) := by omega
      have hR := HR.out.below hb
      obtain ⟨g, off, rfl, hg, _⟩ := hR.addr (by omega)
      obtain ⟨c0, c1, c2, c3, c4, c5, c6⟩ := RgsR.at hR rfl i hlt
      have hq := HZ.out
      rw [HF.out i hlt] at hq
      by_cases hnm : ((L.getD i default).nm.toList == s.toList) = true
      · rw [if_pos hnm] at hq
        have HV : Hid (fndV Z = .tuple #[rgV (L.getD i default).nm (L.getD i default).top (L.getD i default).ht (L.getD i default).lf (L.getD i default).wd (L.getD i default).al (L.getD i default).bot, .bool true]) := Lib.hid (by rw [← hq]; rfl)
        clear hq HZ
        generalize (L.getD i default).nm = x0 at *
        generalize (L.getD i default).top = x1 at *
        generalize (L.getD i default).ht = x2 at *
        generalize (L.getD i default).lf = x3 at *
        generalize (L.getD i default).wd = x4 at *
        generalize (L.getD i default).al = x5 at *
        generalize (L.getD i default).bot = x6 at *
        clear hR
        go_upto_region 7 with fail
        refine world_as (fun W => Below w.heap.size w W ∧ W.heap[w.heap.size]? = some (.cells #[.string ⟨#[]⟩, .int .i64 0, .int .i64 0, .int .i64 0, .int .i64 0, .int .u8 0, .bool false] 56 (0, 0)) ∧ W.heap[wr.heap.size]? = some (.cells #[.string x0, .int .i64 x1, .int .i64 x2, .int .i64 x3, .int .i64 x4, .int .u8 (x5 : Int), .bool x6] 56 (0, 0))) ⟨hb.alloc hsz _, blk_stay HB.out (below1 _ (Nat.le_refl _)), heap_alloc_new wr _⟩ ?_
        rintro W ⟨hbW, hB1, hB2⟩
        clear d0 d1 d2 d3 d4 d5 d6 df c0 c1 c2 c3 c4 c5 c6
        obtain ⟨d0, d1, d2, d3, d4, d5, d6, df, _⟩ := blk7 hB1
        obtain ⟨c0, c1, c2, c3, c4, c5, c6, cf, _⟩ := blk7 hB2
        have HB1 := Lib.hid hB1
        clear hB1 hB2
        go_wp2_with fail
        exact bodyPost_ret (results_cell_tmp Tryz.results65 _ _ _ _ _ _ _ rfl (set7 HB1.out) Tryz.underlying56 (by kernel_rfl)) rfl ⟨by rw [HV.out]; rfl, below7 hbW (Nat.le_refl _)⟩
      · rw [if_neg hnm] at hq
        have HQ := Lib.hid hq
        have hnz : ((L.getD i default).nm.toList == s.toList) = false := by simpa using hnm
        clear hnm hq HZ hR
        generalize (L.getD i default).nm = x0 at *
        go_wp2_with fail
        go_roundw
        case rel => exact ⟨i + 1, by go_num, by omega, HQ, hb.alloc hsz _, blk_stay HB.out (below1 _ (Nat.le_refl _))⟩
        case measure => simp [intOf]; omega
    · obtain rfl : i = L.length := by omega
      have hq := HZ.out
      rw [List.drop_length] at hq
      have HQ := Lib.hid hq
      clear HZ hq
      have hiz : ¬ (L.length : Int) < (L.length : Int) := by omega
      go_wp2_with fail
      exact bodyPost_ret (results_cell_tmp Tryz.results65 _ _ _ _ _ _ _ rfl (set7 HB.out) Tryz.underlying56 (by kernel_rfl)) rfl ⟨by rw [← HQ.out]; rfl, below7 hb (Nat.le_refl _)⟩
end Go.Proofs.YtgiaohccebolpaaGreatDoor
namespace Go.Proofs.YtgiaohccebolpaaGreatDoor
open Go Go.RowKit
open Go.Lib hiding intOf
set_option linter.unusedVariables false
/-! ### rows in a region -/

def icells (l : List Int) : List Value := l.map (Value.int .i64)
theorem icells_at {w : World} {n c g off : Nat} {l : List Int} (h : RowR w 1 (.slice (some ⟨g, off, none⟩) n c) n (icells l)) (i : Nat) (hi : i < l.length) : w.cell? ⟨g, off + i, none⟩ = some (.int .i64 (l.getD i 0)) := by
  refine h.cellAt i _ ?_
  rw [getD_of hi]
  simp [icells, hi]
def plS (wd : Int) (l : List Int) (i : Nat) : Int := if l.getD i 0 < 0 then 2 else if wd < l.getD i 0 then 11 else 0
def plE (r : Rg) (l : List Int) : Int := if usB r = false then 1 else if r.ht < l.length then 9 else fnz (plS r.wd l) 0 l.length
theorem us_bounds {r : Rg} (h : usB r = true) : 0 ≤ r.top ∧ 1 ≤ r.ht ∧ r.top + r.ht ≤ 15 ∧ 0 ≤ r.lf ∧ 1 ≤ r.wd ∧ r.lf + r.wd ≤ 32 := by
  unfold usB at h
  rw [Bool.or_eq_true] at h
  rcases h with h | h
  · unfold dfB rgEq at h
    simp only [Bool.and_eq_true, beq_iff_eq] at h
    omega
  · have h : rgE r = 0 := by simpa using h
    unfold rgE at h
    split at h
    · omega
    · split at h
      · omega
      · rename_i h2
        simp only [Bool.not_eq_false, Bool.and_eq_true] at h2
        obtain ⟨a, b, c, d⟩ := h2
        have a := frm_true a
        have b := frm_true b
        have c := frm_true c
        have d := frm_true d
        omega
theorem info161 : (Tryz.prog.info? 161).map (fun i => (i.zero, i.size, i.bytes)) = some (some (.agg #[.int .i64 0, .int .i64 0, .int .i64 0]), 3, 24) := by kernel_rfl
/-- Some slice and an error number. -/
def SomeRow (z : Int) (e : Ending) : Prop := ∃ v, e = .returned (.tuple #[v, .int .i64 z])
set_option maxHeartbeats 8000000 in
set_option maxRecDepth 100000 in
theorem place_bad (r : Rg) (hr : r.ok) (v : Value) (l : List Int) (w : World) (hR : RowR w 1 v l.length (icells l)) (hn : l.length ≤ 1048576) (h : usB r = false ∨ r.ht < l.length) :
    Calls Tryz.prog 70 #[r.v, v] w fun e w' => SomeRow (plE r l) e ∧ Below w.heap.size w w' := by
  obtain ⟨a, c, rfl⟩ := RowR.len hR
  have cU := fun w => usable_any r hr w
  unfold Rg.v at *
  by_cases hu : usB r = false
  · have e : plE r l = 1 := by unfold plE; rw [if_pos hu]
    rw [e]
    rw [hu] at cU
    clear e hu h
    go_enter Tryz.func70, Tryz.ntmps70
    go_wp2_with fail
    refine (cU _).mono ?_
    rintro e w1 ⟨rfl, hb⟩
    go_wp2_with fail
    go_ret2
    exact ⟨⟨_, rfl⟩, below_grow (below1 _ (Nat.le_refl _)) (by simp) hb⟩
  · have hht : r.ht < l.length := by rcases h with h | h; exact absurd h hu; exact h
    have hu : usB r = true := by simpa using hu
    have e : plE r l = 9 := by unfold plE; rw [hu, if_neg (by simp), if_pos hht]
    rw [e]
    rw [hu] at cU
    clear e hu h
    generalize r.nm = x0 at *
    generalize r.top = x1 at *
    generalize r.ht = x2 at *
    generalize r.lf = x3 at *
    generalize r.wd = x4 at *
    generalize r.al = x5 at *
    generalize r.bot = x6 at *
    go_enter Tryz.func70, Tryz.ntmps70
    go_wp2_with fail
    refine (cU _).mono ?_
    rintro e w1 ⟨rfl, hb⟩
    have k2 : w1.cell? ⟨w.heap.size, 2, none⟩ = some (.int .i64 x2) := (hb.cell (p := ⟨w.heap.size, 2, none⟩) (by simp)).trans (World.cell?_alloc_at _ _ _ _ rfl)
    go_wp2_with fail
    go_ret2
    exact ⟨⟨_, rfl⟩, below_grow (below1 _ (Nat.le_refl _)) (by simp) hb⟩
theorem plS_eq (wd : Int) (l : List Int) (i : Nat) : plS wd l i = if l.getD i 0 < 0 then 2 else if wd < l.getD i 0 then 11 else 0 := rfl
theorem app_grow {W W1 w1 : World} {B : Nat} {T : TypeId} {cs : Array Value} {E : TypeId} {s n : Nat} {v : Value} {xs : List Value} {k : Nat} (hbl : W.heap[k]? = some (.cells cs T (0, 0))) (hb1 : Below W.heap.size W W1) (hown : W1.ownsRow B E s v n xs) (hE : T ≠ E) (hg : W1.grownBy w1 v.ownBlock) : w1.heap[k]? = some (.cells cs T (0, 0)) := by
  have h1 := blk_stay hbl hb1
  rw [hg.block k (heap_lt h1) (fun e => blk_ne hE h1 (own_base hown) e.symm)]
  exact h1
set_option maxHeartbeats 8000000 in
set_option maxRecDepth 100000 in
theorem place_good (r : Rg) (hr : r.ok) (v : Value) (l : List Int) (w : World) (hR : RowR w 1 v l.length (icells l)) (hu : usB r = true) (hht : ¬ r.ht < l.length) :
    Calls Tryz.prog 70 #[r.v, v] w fun e w' => SomeRow (plE r l) e ∧ Below w.heap.size w w' := by
  obtain ⟨i0, hi, iz0, iz1, iz2⟩ := info_parts info161
  obtain ⟨a, c, rfl⟩ := RowR.len hR
  have cU := fun w => usable_any r hr w
  obtain ⟨b1, b2, b3, b4, b5, b6⟩ := us_bounds hu
  have hE : fnz (plS r.wd l) 0 (l.length - 0) = plE r l := by unfold plE; rw [hu, if_neg (by simp), if_neg hht]; rfl
  generalize plE r l = Z at *
  rw [hu] at cU
  clear hu
  unfold Rg.v at *
  generalize r.nm = x0 at *
  generalize r.top = x1 at *
  generalize r.ht = x2 at *
  generalize r.lf = x3 at *
  generalize r.wd = x4 at *
  generalize r.al = x5 at *
  generalize r.bot = x6 at *
  have HE := Lib.hid hE
  have HS := Lib.hid (fnz_step (plS x4 l))
  have HR := Lib.hid hR
  clear hE hR
  have hN : (l.length : Int) ≤ 15 := by omega
  have hlx : (l.length : Int) ≤ x2 := by omega
  go_enter Tryz.func70, Tryz.ntmps70
  go_wp2_with fail
  refine (cU _).mono ?_
  rintro e w1 ⟨rfl, hb⟩
  have bW := below_grow (below1 (B := w.heap.size) (.cells #[.string x0, .int .i64 x1, .int .i64 x2, .int .i64 x3, .int .i64 x4, .int .u8 (x5 : Int), .bool x6] 56) (Nat.le_refl _)) (by simp) hb
  have hB1 : w1.heap[w.heap.size]? = some (.cells #[.string x0, .int .i64 x1, .int .i64 x2, .int .i64 x3, .int .i64 x4, .int .u8 (x5 : Int), .bool x6] 56 (0, 0)) := blk_stay (heap_alloc_new w _) hb
  obtain ⟨c0, c1, c2, c3, c4, c5, c6, cf, _⟩ := blk7 hB1
  have HB := Lib.hid (And.intro bW hB1)
  clear hb hB1 bW
  cases x6
  all_goals
    go_wp2_with fail
    clear c0 c1 c2 c3 c4 c5 c6 cf
    go_loopw [34, 7] (fun v u wx => ∃ (i : Nat) (xs : List Value), v = .int .i64 i ∧ i ≤ l.length ∧ wx.ownsRow w.heap.size 161 3 u i xs ∧ Hid (fnz (plS x4 l) i (l.length - i) = Z) ∧ Hid (Below w.heap.size w wx) ∧ Hid (wx.heap[w.heap.size]? = some (.cells #[.string x0, .int .i64 x1, .int .i64 x2, .int .i64 x3, .int .i64 x4, .int .u8 (x5 : Int), .bool _] 56 (0, 0)))) (fun v _ _ => l.length - (intOf v).toNat)
    case atStart => exact ⟨0, [], rfl, Nat.zero_le _, World.ownsRow_nil _ _ _ _, HE, Lib.hid HB.out.1, Lib.hid HB.out.2⟩
    case round =>
      clear HE HB
      obtain ⟨i, xs, rfl, hil, hown, HZ, hbR, HBR⟩ := hrel
      obtain ⟨c0, c1, c2, c3, c4, c5, c6, cf, hlt0⟩ := blk7 HBR.out
      have hsz := hbR.out.size
      by_cases hlt : i < l.length
      · have hiz : (i : Int) < (l.length : Int) := by omega
        have hR := (HR.out).below (hbR.out)
        obtain ⟨g, off, rfl, hg, _⟩ := hR.addr (by omega)
        have cN := icells_at hR i hlt
        have hq := HZ.out
        rw [HS.out i l.length hlt, plS_eq] at hq
        generalize l.getD i 0 = n at *
        clear hR
        by_cases hn0 : n < 0
        · have HQ : Hid (2 = Z) := Lib.hid (by rw [if_pos hn0] at hq; exact hq)
          clear hq HZ
          go_wp2_with fail
          go_ret2
          exact ⟨⟨_, by rw [HQ.out]; rfl⟩, hbR.out⟩
        by_cases hnw : x4 < n
        · have HQ : Hid (11 = Z) := Lib.hid (by rw [if_neg hn0, if_pos hnw] at hq; exact hq)
          clear hq HZ
          go_wp2_with fail
          go_ret2
          exact ⟨⟨_, by rw [HQ.out]; rfl⟩, hbR.out⟩
        have HQ : Hid (fnz (plS x4 l) (i + 1) (l.length - (i + 1)) = Z) := Lib.hid (by rw [if_neg hn0, if_neg hnw, if_pos rfl] at hq; exact hq)
        clear hq HZ
        by_cases h3 : x5 = 3
        · have h3z : ((x5 : Int) == 3) = true := by simp [h3]
          clear h3
          go_wp2_with (at_builtin; refine wpList_append_row rfl _ _ 132 rfl w.heap.size 161 i0 _ 3 24 Tryz.underlying132 hi iz0 iz1 iz2 rfl (by decide) _ _ _ rfl ((hown.alloc _).alloc _) _ 1 _ rfl (lit_row _ _ _ (by simp) rfl) (one_lit rfl) ?c3 ?c4 ?c5 ?_)
          case c3 => unfold maxLen; omega
          case c4 => omega
          case c5 => omega
          intro v' w2 hown' hgrow _
          have R1 := Lib.hid (app_step ((hown.alloc _).alloc _) ((hbR.out.alloc hsz _).alloc (by simp; omega) _) (by simp; omega) hgrow)
          have R2 := Lib.hid (app_grow HBR.out ((below1 _ (Nat.le_refl _)).alloc (by simp) _) ((hown.alloc _).alloc _) (by decide) hgrow)
          have HO := Lib.hid hown'
          clear hown hown' hgrow hbR HBR c0 c1 c2 c3 c4 c5 c6 cf
          go_wp2_with fail
          go_roundw
          case rel => exact ⟨i + 1, _, by go_num, by omega, HO.out, HQ, R1, R2⟩
          case measure => simp [intOf]; omega
        · have h3z : ((x5 : Int) == 3) = false := by simp; omega
          by_cases h2 : x5 = 2
          · have h2z : ((x5 : Int) == 2) = true := by simp [h2]
            clear h3 h2
            go_wp2_with (at_builtin; refine wpList_append_row rfl _ _ 132 rfl w.heap.size 161 i0 _ 3 24 Tryz.underlying132 hi iz0 iz1 iz2 rfl (by decide) _ _ _ rfl ((hown.alloc _).alloc _) _ 1 _ rfl (lit_row _ _ _ (by simp) rfl) (one_lit rfl) ?c3 ?c4 ?c5 ?_)
            case c3 => unfold maxLen; omega
            case c4 => omega
            case c5 => omega
            intro v' w2 hown' hgrow _
            have R1 := Lib.hid (app_step ((hown.alloc _).alloc _) ((hbR.out.alloc hsz _).alloc (by simp; omega) _) (by simp; omega) hgrow)
            have R2 := Lib.hid (app_grow HBR.out ((below1 _ (Nat.le_refl _)).alloc (by simp) _) ((hown.alloc _).alloc _) (by decide) hgrow)
            have HO := Lib.hid hown'
            clear hown hown' hgrow hbR HBR c0 c1 c2 c3 c4 c5 c6 cf
            go_wp2_with fail
            go_roundw
            case rel => exact ⟨i + 1, _, by go_num, by omega, HO.out, HQ, R1, R2⟩
            case measure => simp [intOf]; omega
          · have h2z : ((x5 : Int) == 2) = false := by simp; omega
            clear h3 h2
            go_wp2_with (at_builtin; refine wpList_append_row rfl _ _ 132 rfl w.heap.size 161 i0 _ 3 24 Tryz.underlying132 hi iz0 iz1 iz2 rfl (by decide) _ _ _ rfl ((hown.alloc _).alloc _) _ 1 _ rfl (lit_row _ _ _ (by simp) rfl) (one_lit rfl) ?c3 ?c4 ?c5 ?_)
            case c3 => unfold maxLen; omega
            case c4 => omega
            case c5 => omega
            intro v' w2 hown' hgrow _
            have R1 := Lib.hid (app_step ((hown.alloc _).alloc _) ((hbR.out.alloc hsz _).alloc (by simp; omega) _) (by simp; omega) hgrow)
            have R2 := Lib.hid (app_grow HBR.out ((below1 _ (Nat.le_refl _)).alloc (by simp) _) ((hown.alloc _).alloc _) (by decide) hgrow)
            have HO := Lib.hid hown'
            clear hown hown' hgrow hbR HBR c0 c1 c2 c3 c4 c5 c6 cf
            go_wp2_with fail
            go_roundw
            case rel => exact ⟨i + 1, _, by go_num, by omega, HO.out, HQ, R1, R2⟩
            case measure => simp [intOf]; omega
      · obtain rfl : i = l.length := by omega
        have hq := HZ.out
        rw [fnz_end] at hq
        have HQ := Lib.hid hq
        clear hq HZ
        have hiz : ¬ (l.length : Int) < (l.length : Int) := by omega
        go_wp2_with fail
        go_ret2
        exact ⟨⟨_, by rw [HQ.out]; rfl⟩, hbR.out⟩
end Go.Proofs.YtgiaohccebolpaaGreatDoor
