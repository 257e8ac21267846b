import Derived.Test.YtgiaohccebolpaaGreatDoorQ4
import Derived.Test.YtgiaohccebolpaaGreatDoorQ5
import Derived.StillTailTactics
import Derived.IntWalk
import Derived.Laws.OwnMore
import Derived.Test.YtgiaohccebolpaaGreatDoorQ3
import Derived.Lib.SliceRun
namespace Go.Proofs.YtgiaohccebolpaaGreatDoor
open Go Go.RowKit Go.Shelf
open Go.Lib hiding intOf
set_option linter.unusedVariables false
/-- What the laid variables give, and the machine's limit for searching. -/
structure Env (w : World) : Prop where
  tabs : Lib.Utf8Tabs 1 2 w
  maxl : ∃ m : Int, w.cell? ⟨0, 0, none⟩ = some (.int .i64 m)
  pow : Lib.TabIs Tryz.prog w "internal/strconv.uint64pow10" .u64 Lib.pow10Tab
theorem pow_named : Tryz.prog.globalNamed "internal/strconv.uint64pow10" = some 3 := by kernel_rfl
theorem var?_lt {P : Program} {w : World} {n : String} {g : Nat} {cs : Array Value} (hg : P.globalNamed n = some g) (h : w.var? P n = some cs) : g < w.heap.size := by
  unfold World.var? at h
  rw [hg] at h
  rcases Nat.lt_or_ge g w.heap.size with h' | h'
  · exact h'
  · simp [Array.getElem?_eq_none h'] at h
theorem Env.below {w w' : World} (h : Env w) (hb : Below w.heap.size w w') : Env w' :=
  ⟨Utf8Tabs_below h.tabs hb, by obtain ⟨m, hm⟩ := h.maxl; exact ⟨m, (hb.cell (cell_lt hm)).trans hm⟩, by
    have h2 := h.pow
    unfold Lib.TabIs at h2 ⊢
    exact var?_below hb pow_named (var?_lt pow_named h2) h2⟩
set_option maxHeartbeats 4000000 in
set_option maxRecDepth 100000 in
theorem valid_any (s : ByteArray) (w : World) (hs : s.size ≤ 9223372036854775807) (hE : Env w) :
    Calls Tryz.prog 77 #[.string s] w fun e w' => e = .returned (.bool (validC s.data.toList)) ∧ Below w.heap.size w w' := by
  have cV := Tryz.utf8_ValidString s w hs hE.tabs
  by_cases hv : validD s.data.toList = true
  case neg =>
    have hv' : validD s.data.toList = false := by simpa using hv
    rw [validD_false hv']
    rw [hv'] at cV
    clear hv hv'
    go_enter Tryz.func77, Tryz.ntmps77
    go_wp2_with (refine cV.mono ?_; rintro e w1 ⟨rfl, hb1⟩)
    go_ret
    exact ⟨rfl, hb1⟩
  obtain ⟨Z, hZ⟩ : ∃ Z, validC s.data.toList = Z := ⟨_, rfl⟩
  rw [hZ]
  rw [hv] at cV
  clear hv
  go_enter Tryz.func77, Tryz.ntmps77
  go_wp2_with (refine cV.mono ?_; rintro e w1 ⟨rfl, hb1⟩)
  go_loopg [4] s.size (fun gf s4 wx => ∃ (pos : Nat), wx.heap[w1.heap.size]? = some (.stringIter s pos) ∧ Below w1.heap.size w1 wx ∧ (runesAt s pos).all inR = Z ∧ s.size ≤ pos + gf)
  case atStart => exact ⟨0, World.iter_heap w1 s 0, below_iter _ _ _, hZ, by omega⟩
  case round =>
    obtain ⟨pos, hit, hbw, hc, hg⟩ := hrel
    by_cases hp : pos < s.size
    · obtain ⟨g', rfl⟩ : ∃ g', gk = g' + 1 := ⟨gk - 1, by omega⟩
      have hnx : ∀ ty, (Instr.next (.pointer (some ⟨w1.heap.size, 0, none⟩)) true ty).run Tryz.prog wr = _ := fun ty => Lib.run_next_any_at wr w1.heap.size s pos ty hit hp
      have hwd := Lib.decode_width_pos s pos hp
      rw [runesAt_step s pos hp] at hc
      have hle := Lib.rune_le s pos
      have hit2 := Lib.iterAt_heap wr w1.heap.size s pos (pos + (Utf8.decode s pos).2) hit
      have hbw2 := Lib.below_iterAt hbw (k := w1.heap.size) (Nat.le_refl _) s (pos + (Utf8.decode s pos).2)
      generalize (Utf8.decode s pos).2 = K at *
      generalize (Utf8.decode s pos).1 = R at *
      generalize wr.iterAt w1.heap.size s (pos + K) = W at *
      have c := index_any (R : Int) W (by omega) (by omega)
      have hd : inR R = decide (0 ≤ idxR R) := rfl
      generalize idxR (R : Int) = I at *
      simp only [List.all_cons, hd] at hc
      clear hd
      by_cases hi : I < 0
      · have hcz : Z = false := by rw [← hc]; simp; omega
        go_wp2_with (refine c.mono ?_; rintro e w2 ⟨rfl, hb2⟩)
        go_ret
        exact ⟨ret_bool hcz.symm, below_trans hb1 (below_grow hbw2 hbw2.size hb2)⟩
      · have hcz : (runesAt s (pos + K)).all inR = Z := by rw [← hc]; simp; omega
        go_wp2_with (refine c.mono ?_; rintro e w2 ⟨rfl, hb2⟩)
        go_roundg g'
        case measure => omega
        case rel => exact ⟨pos + K, (hb2.block _ (heap_lt hit2)).trans hit2, below_grow hbw2 hbw2.size hb2, hcz, by omega⟩
    · have hnx : ∀ ty, (Instr.next (.pointer (some ⟨w1.heap.size, 0, none⟩)) true ty).run Tryz.prog wr = _ := fun ty => Lib.run_next_end_at wr w1.heap.size s pos ty hit hp
      rw [runesAt_end s pos hp] at hc
      go_wp2
      go_ret
      exact ⟨ret_bool (by rw [← hc]; rfl), below_trans hb1 hbw⟩

set_option maxHeartbeats 4000000 in
theorem len_any (s : ByteArray) (w : World) (hs : s.size < 9223372036854775807) (hE : Env w) :
    Calls Tryz.prog 123 #[.string s] w fun e w' => e = .returned (.int .i64 (lenC s.data.toList)) ∧ Below w.heap.size w w' := by
  have cV := valid_any s w (by omega) hE
  unfold lenC
  by_cases hv : validC s.data.toList = true
  · rw [if_pos hv]
    rw [hv] at cV
    clear hv
    have cR := fun w => Tryz.utf8_RuneCountInString s w hs
    rw [runeCount_runes] at cR
    generalize ((runes s.data.toList).length : Int) = N at *
    go_enter Tryz.func123, Tryz.ntmps123
    go_wp2_with (first | (refine cV.mono ?_; rintro e w1 ⟨rfl, hb1⟩) | (refine (cR _).mono ?_; rintro e w2 ⟨rfl, pos, rfl⟩))
    go_ret
    exact ⟨rfl, below_trans hb1 (below_iter _ _ _)⟩
  · have hv' : validC s.data.toList = false := by simpa using hv
    rw [if_neg hv]
    rw [hv'] at cV
    clear hv hv'
    go_enter Tryz.func123, Tryz.ntmps123
    go_wp2_with (refine cV.mono ?_; rintro e w1 ⟨rfl, hb1⟩)
    go_ret
    exact ⟨rfl, hb1⟩

end Go.Proofs.YtgiaohccebolpaaGreatDoor
namespace Go.Proofs.YtgiaohccebolpaaGreatDoor
open Go Go.RowKit
open Go.Lib hiding intOf
set_option linter.unusedVariables false
attribute [local go_sem ↓] eq109
/-! ### runs -/
def alkV (c c' : Int) (i u i' u' : Bool) (r r' : ByteArray) : Bool := stEq c c' i u i' u' && (r.toList.isEmpty && r'.toList.isEmpty)
def alk (x y : Rn) : Bool := alkV x.c y.c x.i x.u y.i y.u (ba x.r) (ba y.r)
set_option maxHeartbeats 4000000 in
set_option maxRecDepth 100000 in
theorem alike_any (t t' r r' : ByteArray) (c c' : Int) (i u i' u' : Bool) (w : World) : Calls Tryz.prog 110 #[rnV t c i u r, rnV t' c' i' u' r'] w fun e w' => e = .returned (.bool (alkV c c' i u i' u' r r')) ∧ Below w.heap.size w w' := by
  have hd : alkV c c' i u i' u' r r' = (stEq c c' i u i' u' && (r.toList.isEmpty && r'.toList.isEmpty)) := rfl
  rw [hd]
  clear hd
  obtain ⟨S, hS⟩ : ∃ S, stEq c c' i u i' u' = S := ⟨_, rfl⟩
  obtain ⟨R, hR⟩ : ∃ R, r.toList.isEmpty = R := ⟨_, rfl⟩
  obtain ⟨R', hR'⟩ : ∃ R', r'.toList.isEmpty = R' := ⟨_, rfl⟩
  rw [hS, hR, hR']
  cases S <;> cases R <;> cases R'
  all_goals
    go_enter Tryz.func110, Tryz.ntmps110
    go_wp2
    go_ret
    exact ⟨rfl, (below1 _ (Nat.le_refl _)).alloc (by simp) _⟩
def okSt (c : Int) : Bool := decide (c ≤ 6)
set_option maxHeartbeats 4000000 in
theorem stvalid_any (c : Int) (i u : Bool) (w : World) : Calls Tryz.prog 116 #[.agg #[.int .u8 c, .bool i, .bool u]] w fun e w' => e = .returned (.bool (okSt c)) ∧ Below w.heap.size w w' := by
  go_enter Tryz.func116, Tryz.ntmps116
  go_wp2
  go_ret
  exact ⟨rfl, below1 _ (Nat.le_refl _)⟩
end Go.Proofs.YtgiaohccebolpaaGreatDoor
namespace Go.Proofs.YtgiaohccebolpaaGreatDoor
open Go Go.RowKit
open Go.Lib hiding intOf
set_option linter.unusedVariables false
/-! ### a row in normal form -/
def Rn.fit (x : Rn) : Prop := x.t.length ≤ 1048576 ∧ x.r.length ≤ 1048576
def scS (L : Rw) (i : Nat) : Int :=
  if validC (L.getD i default).t = false then 10
  else if (ba (L.getD i default).t).toList.isEmpty = true then 4
  else if okSt (L.getD i default).c = false then 12
  else if validC (L.getD i default).r = false then 10
  else if i = 0 then 0
  else if alk (L.getD (i - 1) default) (L.getD i default) = true then 8 else 0
def scE (L : Rw) : Int := if 16 < L.length then 9 else fnz (scS L) 0 L.length
theorem getD_fit {L : Rw} (h : ∀ r ∈ L, r.fit) (i : Nat) (hi : i < L.length) : (L.getD i default).fit := by
  rw [getD_of hi]; exact h _ (List.getElem_mem hi)
theorem scS_def (L : Rw) (i : Nat) : scS L i = if validC (L.getD i default).t = false then 10
  else if (ba (L.getD i default).t).toList.isEmpty = true then 4
  else if okSt (L.getD i default).c = false then 12
  else if validC (L.getD i default).r = false then 10
  else if i = 0 then 0
  else if alk (L.getD (i - 1) default) (L.getD i default) = true then 8 else 0 := rfl
set_option maxHeartbeats 8000000 in
set_option maxRecDepth 100000 in
theorem scheck_any (v : Value) (L : Rw) (w : World) (hR : RunsR w v L) (hf : ∀ r ∈ L, r.fit) (hn : L.length ≤ 1048576) (hE : Env w) :
    Calls Tryz.prog 87 #[.agg #[v]] w fun e w' => e = .returned (.int .i64 (scE L)) ∧ Below w.heap.size w w' := by
  obtain ⟨a, c, rfl⟩ := RowR.len hR
  by_cases h16 : 16 < L.length
  · have hz : (16 : Int) < (L.length : Int) := by omega
    have e : scE L = 9 := by unfold scE; rw [if_pos h16]
    rw [e]
    clear e
    go_enter Tryz.func87, Tryz.ntmps87
    go_wp2
    go_ret
    exact ⟨rfl, below1 _ (Nat.le_refl _)⟩
  have hz : ¬ (16 : Int) < (L.length : Int) := by omega
  have hq : fnz (scS L) 0 (L.length - 0) = scE L := by unfold scE; rw [if_neg h16]; rfl
  have HS := Lib.hid (fnz_step (scS L))
  have HQ := Lib.hid hq
  have HF := Lib.hid hf
  have HR := Lib.hid hR
  generalize scE L = Z at *
  clear hq hf hR
  go_enter Tryz.func87, Tryz.ntmps87
  go_wp2_with fail
  go_loopw [12] (fun v wx => ∃ i : Nat, v = .int .i64 i ∧ i ≤ L.length ∧ Hid (fnz (scS L) i (L.length - i) = Z) ∧ Below w.heap.size w wx ∧ Hid (wx.heap[w.heap.size]? = some (.cells #[.slice a L.length c] 71 (0, 0)))) (fun v _ => L.length - (intOf v).toNat)
  case atStart => exact ⟨0, rfl, Nat.zero_le _, HQ, below1 _ (Nat.le_refl _), Lib.hid (heap_alloc_new w _)⟩
  case round =>
    clear HQ
    obtain ⟨i, rfl, hi, HZ, hb, HB⟩ := hrel
    have hsz := hb.size
    by_cases hlt : i < L.length
    · have hiz : (i : Int) < (L.length : Int) := by omega
      have hR := HR.out.below hb
      have hE2 := hE.below hb
      obtain ⟨g, off, rfl, hg, _⟩ := hR.addr (by omega)
      have hq := HZ.out
      rw [HS.out i L.length hlt, scS_def] at hq
      obtain ⟨c0, c1, c2, c3, c4⟩ := RunsR.at hR rfl i hlt
      obtain ⟨f1, f2⟩ := getD_fit HF.out i hlt
      have hpv : 0 < i → _ := fun h => RunsR.at hR rfl (i - 1) (by omega)
      have hal : alk (L.getD (i - 1) default) (L.getD i default) = alkV (L.getD (i - 1) default).c (L.getD i default).c (L.getD (i - 1) default).i (L.getD (i - 1) default).u (L.getD i default).i (L.getD i default).u (ba (L.getD (i - 1) default).r) (ba (L.getD i default).r) := rfl
      rw [hal] at hq
      clear hal
      have cV := fun w hE => valid_any (ba (L.getD i default).t) w (by rw [ba_size]; omega) hE
      have cR := fun w hE => valid_any (ba (L.getD i default).r) w (by rw [ba_size]; omega) hE
      rw [ba_data] at cV cR
      generalize validC (L.getD i default).t = V at *
      generalize validC (L.getD i default).r = VR at *
      generalize ba (L.getD i default).t = x0 at *
      generalize (L.getD i default).c = x1 at *
      generalize (L.getD i default).i = x2 at *
      generalize (L.getD i default).u = x3 at *
      generalize ba (L.getD i default).r = x4 at *
      generalize ba (L.getD (i - 1) default).t = y0 at *
      generalize (L.getD (i - 1) default).c = y1 at *
      generalize (L.getD (i - 1) default).i = y2 at *
      generalize (L.getD (i - 1) default).u = y3 at *
      generalize ba (L.getD (i - 1) default).r = y4 at *
      clear hR f1 f2
      have HP := Lib.hid hpv
      have HQ := Lib.hid hq
      clear hpv hq HZ
      go_upto_block 2 with fail
      refine world_as (fun W => Below w.heap.size w W ∧ Below wr.heap.size wr W ∧ W.heap[wr.heap.size]? = some (.cells #[.string x0, .int .u8 (x1 : Int), .bool x2, .bool x3, .string x4] 111 (0, 0))) ⟨hb.alloc hsz _, below1 _ (Nat.le_refl _), heap_alloc_new wr _⟩ ?_
      rintro W ⟨hbW, hbr, hBx⟩
      have hEW := hE.below hbW
      have HBx := Lib.hid hBx
      clear c0 c1 c2 c3 c4 hBx
      obtain ⟨c0, c1, c2, c3, c4, cf, hlt0⟩ := blk5 HBx.out
      have hnx : ∀ (W2 : World), Below W.heap.size W W2 → W2.heap[wr.heap.size]? = some (.cells #[.string x0, .int .u8 (x1 : Int), .bool x2, .bool x3, .string x4] 111 (0, 0)) ∧ Below w.heap.size w W2 ∧ W2.heap[w.heap.size]? = some (.cells #[.slice (some ⟨g, off, none⟩) L.length c] 71 (0, 0)) ∧ Below wr.heap.size wr W2 := fun W2 h => ⟨blk_stay HBx.out h, below_grow hbW hbW.size h, blk_stay (blk_stay HB.out hbr) h, below_grow hbr hbr.size h⟩
      have HN := Lib.hid hnx
      clear hnx
      cases V
      · have HZ2 : Hid (10 = Z) := Lib.hid HQ.out
        clear HQ HP
        go_wp2_with fail
        refine (cV _ hEW).mono ?_
        rintro e w1 ⟨rfl, hb1⟩
        obtain ⟨hx, hbw1, hrow, hbr1⟩ := HN.out _ hb1
        clear c0 c1 c2 c3 c4 cf hlt0
        obtain ⟨c0, c1, c2, c3, c4, cf, hlt0⟩ := blk5 hx
        clear hx hrow
        go_wp2_with fail
        go_ret
        exact ⟨ret_int HZ2.out, hbw1⟩
      obtain ⟨EM, hEM⟩ : ∃ EM, x0.toList.isEmpty = EM := ⟨_, rfl⟩
      rw [hEM] at HQ
      cases EM
      case true =>
        have HZ2 : Hid (4 = Z) := Lib.hid HQ.out
        clear HQ HP
        go_wp2_with fail
        refine (cV _ hEW).mono ?_
        rintro e w1 ⟨rfl, hb1⟩
        obtain ⟨hx, hbw1, hrow, hbr1⟩ := HN.out _ hb1
        clear c0 c1 c2 c3 c4 cf hlt0
        obtain ⟨c0, c1, c2, c3, c4, cf, hlt0⟩ := blk5 hx
        clear hx hrow
        go_wp2_with fail
        go_ret
        exact ⟨ret_int HZ2.out, hbw1⟩
      obtain ⟨OS, hOS⟩ : ∃ OS, okSt x1 = OS := ⟨_, rfl⟩
      have cS := fun w => stvalid_any (x1 : Int) x2 x3 w
      rw [hOS] at HQ cS
      clear hOS
      cases OS
      · have HZ2 : Hid (12 = Z) := Lib.hid HQ.out
        clear HQ HP
        go_wp2_with fail
        refine (cV _ hEW).mono ?_
        rintro e w1 ⟨rfl, hb1⟩
        obtain ⟨hx, hbw1, hrow, hbr1⟩ := HN.out _ hb1
        clear c0 c1 c2 c3 c4 cf hlt0
        obtain ⟨c0, c1, c2, c3, c4, cf, hlt0⟩ := blk5 hx
        clear hx hrow
        go_wp2_with fail
        refine (cS _).mono ?_
        rintro e w2 ⟨rfl, hb2⟩
        have hb2 := below_trans hb1 hb2
        obtain ⟨hx, hbw2, hrow, hbr2⟩ := HN.out _ hb2
        clear c0 c1 c2 c3 c4 cf hlt0
        obtain ⟨c0, c1, c2, c3, c4, cf, hlt0⟩ := blk5 hx
        clear hx hrow
        go_wp2_with fail
        go_ret
        exact ⟨ret_int HZ2.out, hbw2⟩
      cases VR
      · have HZ2 : Hid (10 = Z) := Lib.hid HQ.out
        clear HQ HP
        go_wp2_with fail
        refine (cV _ hEW).mono ?_
        rintro e w1 ⟨rfl, hb1⟩
        obtain ⟨hx, hbw1, hrow, hbr1⟩ := HN.out _ hb1
        clear c0 c1 c2 c3 c4 cf hlt0
        obtain ⟨c0, c1, c2, c3, c4, cf, hlt0⟩ := blk5 hx
        clear hx hrow
        go_wp2_with fail
        refine (cS _).mono ?_
        rintro e w2 ⟨rfl, hb2⟩
        have hb2 := below_trans hb1 hb2
        obtain ⟨hx, hbw2, hrow, hbr2⟩ := HN.out _ hb2
        have hEb := hE.below hbw2
        clear c0 c1 c2 c3 c4 cf hlt0
        obtain ⟨c0, c1, c2, c3, c4, cf, hlt0⟩ := blk5 hx
        clear hx hrow
        go_wp2_with fail
        refine (cR _ hEb).mono ?_
        rintro e w3 ⟨rfl, hb3⟩
        have hb3 := below_trans hb2 hb3
        obtain ⟨hx, hbw3, hrow, hbr3⟩ := HN.out _ hb3
        clear c0 c1 c2 c3 c4 cf hlt0
        obtain ⟨c0, c1, c2, c3, c4, cf, hlt0⟩ := blk5 hx
        clear hx
        go_wp2_with fail
        go_ret
        exact ⟨ret_int HZ2.out, hbw3⟩
      by_cases hi0 : i = 0
      · have HZ2 : Hid (fnz (scS L) (i + 1) (L.length - (i + 1)) = Z) := Lib.hid (by have h := HQ.out; simp only [hi0, if_true, Bool.true_eq_false, Bool.false_eq_true, if_false] at h ⊢; exact h)
        clear HQ HP
        have hdz : decide (0 < i) = false := by simp; omega
        clear hi0
        go_wp2_with fail
        refine (cV _ hEW).mono ?_
        rintro e w1 ⟨rfl, hb1⟩
        obtain ⟨hx, hbw1, hrow, hbr1⟩ := HN.out _ hb1
        clear c0 c1 c2 c3 c4 cf hlt0
        obtain ⟨c0, c1, c2, c3, c4, cf, hlt0⟩ := blk5 hx
        clear hx hrow
        go_wp2_with fail
        refine (cS _).mono ?_
        rintro e w2 ⟨rfl, hb2⟩
        have hb2 := below_trans hb1 hb2
        obtain ⟨hx, hbw2, hrow, hbr2⟩ := HN.out _ hb2
        have hEb := hE.below hbw2
        clear c0 c1 c2 c3 c4 cf hlt0
        obtain ⟨c0, c1, c2, c3, c4, cf, hlt0⟩ := blk5 hx
        clear hx hrow
        go_wp2_with fail
        refine (cR _ hEb).mono ?_
        rintro e w3 ⟨rfl, hb3⟩
        have hb3 := below_trans hb2 hb3
        obtain ⟨hx, hbw3, hrow, hbr3⟩ := HN.out _ hb3
        clear c0 c1 c2 c3 c4 cf hlt0
        obtain ⟨c0, c1, c2, c3, c4, cf, hlt0⟩ := blk5 hx
        clear hx
        go_wp2_with fail
        go_quiet (fail)
        go_wp2_with fail
        go_roundw
        case rel => exact ⟨i + 1, by go_num, by omega, HZ2, below_dn hbw3 _, Lib.hid hrow⟩
        case measure => simp [intOf]; omega
      have hdz : 0 < i := by omega
      have hdi : (1 : Int) ≤ (i : Int) := by omega
      have hdl : (i : Int) - 1 < (L.length : Int) := by omega
      have hdk : (0 : Int) ≤ (i : Int) - 1 := by omega
      obtain ⟨p0, p1, p2, p3, p4⟩ := HP.out hdz
      have cA := fun w => alike_any y0 x0 y4 x4 (y1 : Int) (x1 : Int) y2 y3 x2 x3 w
      obtain ⟨AL, hAL⟩ : ∃ AL, alkV (y1 : Int) (x1 : Int) y2 y3 x2 x3 y4 x4 = AL := ⟨_, rfl⟩
      rw [hAL] at HQ cA
      clear hAL
      cases AL
      · have HZ2 : Hid (fnz (scS L) (i + 1) (L.length - (i + 1)) = Z) := Lib.hid (by have h := HQ.out; simp only [hi0, if_true, Bool.true_eq_false, Bool.false_eq_true, if_false] at h ⊢; exact h)
        clear HQ HP hi0
        go_wp2_with fail
        refine (cV _ hEW).mono ?_
        rintro e w1 ⟨rfl, hb1⟩
        obtain ⟨hx, hbw1, hrow, hbr1⟩ := HN.out _ hb1
        clear c0 c1 c2 c3 c4 cf hlt0
        obtain ⟨c0, c1, c2, c3, c4, cf, hlt0⟩ := blk5 hx
        clear hx hrow
        go_wp2_with fail
        refine (cS _).mono ?_
        rintro e w2 ⟨rfl, hb2⟩
        have hb2 := below_trans hb1 hb2
        obtain ⟨hx, hbw2, hrow, hbr2⟩ := HN.out _ hb2
        have hEb := hE.below hbw2
        clear c0 c1 c2 c3 c4 cf hlt0
        obtain ⟨c0, c1, c2, c3, c4, cf, hlt0⟩ := blk5 hx
        clear hx hrow
        go_wp2_with fail
        refine (cR _ hEb).mono ?_
        rintro e w3 ⟨rfl, hb3⟩
        have hb3 := below_trans hb2 hb3
        obtain ⟨hx, hbw3, hrow, hbr3⟩ := HN.out _ hb3
        clear c0 c1 c2 c3 c4 cf hlt0
        obtain ⟨c0, c1, c2, c3, c4, cf, hlt0⟩ := blk5 hx
        clear hx
        go_wp2_with fail
        have r0 := (blk1 hrow).1
        have q0 := (hbr3.cell (cell_lt p0)).trans p0
        have q1 := (hbr3.cell (cell_lt p1)).trans p1
        have q2 := (hbr3.cell (cell_lt p2)).trans p2
        have q3 := (hbr3.cell (cell_lt p3)).trans p3
        have q4 := (hbr3.cell (cell_lt p4)).trans p4
        have htn : ((i : Int) - 1).toNat = i - 1 := by omega
        have hwr : IntKind.i64.wrap ((i : Int) - 1) = (i : Int) - 1 := IntWalk.i64_in _ (by omega)
        go_still_tail 10, (by kernel_rfl)
        clear hwr htn
        change wpList _ _ _ _ _ w3.drew
        go_wp2_with fail
        refine (cA _).mono ?_
        rintro e w4 ⟨rfl, hb4'⟩
        have hb4 : Below w3.heap.size w3 w4 := ⟨hb4'.os, hb4'.tape, hb4'.output, hb4'.size, hb4'.block⟩
        have hbw4 := below_grow hbw3 hbw3.size hb4
        have hrow4 := Lib.hid (blk_stay hrow hb4)
        clear hb4'
        go_wp2_with fail
        go_roundw
        case rel => exact ⟨i + 1, by go_num, by omega, HZ2, hbw4, hrow4⟩
        case measure => simp [intOf]; omega
      · have HZ2 : Hid (8 = Z) := Lib.hid (by have h := HQ.out; simp only [hi0, if_true, Bool.true_eq_false, Bool.false_eq_true, if_false] at h; exact h)
        clear HQ HP hi0
        go_wp2_with fail
        refine (cV _ hEW).mono ?_
        rintro e w1 ⟨rfl, hb1⟩
        obtain ⟨hx, hbw1, hrow, hbr1⟩ := HN.out _ hb1
        clear c0 c1 c2 c3 c4 cf hlt0
        obtain ⟨c0, c1, c2, c3, c4, cf, hlt0⟩ := blk5 hx
        clear hx hrow
        go_wp2_with fail
        refine (cS _).mono ?_
        rintro e w2 ⟨rfl, hb2⟩
        have hb2 := below_trans hb1 hb2
        obtain ⟨hx, hbw2, hrow, hbr2⟩ := HN.out _ hb2
        have hEb := hE.below hbw2
        clear c0 c1 c2 c3 c4 cf hlt0
        obtain ⟨c0, c1, c2, c3, c4, cf, hlt0⟩ := blk5 hx
        clear hx hrow
        go_wp2_with fail
        refine (cR _ hEb).mono ?_
        rintro e w3 ⟨rfl, hb3⟩
        have hb3 := below_trans hb2 hb3
        obtain ⟨hx, hbw3, hrow, hbr3⟩ := HN.out _ hb3
        clear c0 c1 c2 c3 c4 cf hlt0
        obtain ⟨c0, c1, c2, c3, c4, cf, hlt0⟩ := blk5 hx
        clear hx
        go_wp2_with fail
        have r0 := (blk1 hrow).1
        have q0 := (hbr3.cell (cell_lt p0)).trans p0
        have q1 := (hbr3.cell (cell_lt p1)).trans p1
        have q2 := (hbr3.cell (cell_lt p2)).trans p2
        have q3 := (hbr3.cell (cell_lt p3)).trans p3
        have q4 := (hbr3.cell (cell_lt p4)).trans p4
        have htn : ((i : Int) - 1).toNat = i - 1 := by omega
        have hwr : IntKind.i64.wrap ((i : Int) - 1) = (i : Int) - 1 := IntWalk.i64_in _ (by omega)
        go_still_tail 10, (by kernel_rfl)
        clear hwr htn
        change wpList _ _ _ _ _ w3.drew
        go_wp2_with fail
        refine (cA _).mono ?_
        rintro e w4 ⟨rfl, hb4'⟩
        have hb4 : Below w3.heap.size w3 w4 := ⟨hb4'.os, hb4'.tape, hb4'.output, hb4'.size, hb4'.block⟩
        have hbw4 := below_grow hbw3 hbw3.size hb4
        clear hb4'
        go_wp2_with fail
        go_ret
        exact ⟨ret_int HZ2.out, hbw4⟩
    · obtain rfl : i = L.length := by omega
      have hq := HZ.out
      rw [fnz_end] at hq
      have HQ := Lib.hid hq
      clear hq HZ
      have hiz : ¬ (L.length : Int) < (L.length : Int) := by omega
      go_wp2_with fail
      go_ret
      exact ⟨ret_int HQ.out, hb⟩
end Go.Proofs.YtgiaohccebolpaaGreatDoor
namespace Go.Proofs.YtgiaohccebolpaaGreatDoor
open Go Go.RowKit
open Go.Lib hiding intOf
set_option linter.unusedVariables false
/-! ### the normal form -/
def lastR (d : Rw) : Rn := d.getD (d.length - 1) default
def nstep (d : Rw) (x : Rn) : Rw :=
  if x.t = [] then d else if d ≠ [] ∧ alk (lastR d) x = true then d.take (d.length - 1) ++ [{ lastR d with t := (lastR d).t ++ x.t }] else d ++ [x]
def normR (l : Rw) : Rw := l.foldl nstep []
def tot (l : Rw) : Nat := (l.map fun x => x.t.length).sum
theorem nstep_def (d : Rw) (x : Rn) : nstep d x = if x.t = [] then d else if d ≠ [] ∧ alk (lastR d) x = true then d.take (d.length - 1) ++ [{ lastR d with t := (lastR d).t ++ x.t }] else d ++ [x] := rfl
theorem tot_app (a b : Rw) : tot (a ++ b) = tot a + tot b := by simp [tot]
theorem last_split (d : Rw) (h : d ≠ []) : d = d.take (d.length - 1) ++ [lastR d] := by
  have hl : 0 < d.length := List.length_pos_iff.2 h
  conv => lhs; rw [← List.take_append_drop (d.length - 1) d]
  congr 1
  rw [List.drop_eq_getElem_cons (by omega), List.drop_eq_nil_of_le (by omega)]
  unfold lastR
  rw [getD_of (by omega)]
theorem tot_last (d : Rw) (h : d ≠ []) (t : List UInt8) : tot (d.take (d.length - 1) ++ [{ lastR d with t := (lastR d).t ++ t }]) = tot d + t.length := by
  conv => rhs; rw [last_split d h]
  rw [tot_app, tot_app]
  simp [tot]; omega
theorem last_fit (d : Rw) (h : d ≠ []) : (lastR d).t.length ≤ tot d := by
  conv => rhs; rw [last_split d h]
  rw [tot_app]; simp [tot]
theorem drop_cons {α : Type} [Inhabited α] (L : List α) (i : Nat) (h : i < L.length) : L.drop i = L.getD i default :: L.drop (i + 1) := by
  rw [List.drop_eq_getElem_cons h, getD_of h]
theorem ba_app (a b : List UInt8) : ba a ++ ba b = ba (a ++ b) := by
  apply ByteArray.ext
  simp [ba]
theorem ba_empty (l : List UInt8) : (ba l).toList.isEmpty = decide (l = []) := by
  rw [ba_list]
  cases l <;> rfl
theorem own_addr {w : World} {B e k n m c : Nat} {a : Option Addr} {xs : List Value} (h : w.ownsRow B e k (.slice a m c) n xs) (hn : 0 < n) : ∃ g, a = some ⟨g, 0, none⟩ ∧ m = n := by
  rcases h.2 with ⟨e, h0⟩ | ⟨g, cap, cur, e, _⟩
  · omega
  · injection e with e1 e2 e3
    exact ⟨g, e1, e2⟩
theorem set_last (d : Rw) (h : d ≠ []) (t : List UInt8) : (encL Rn.cells d).set ((d.length - 1) * 5) (.string (ba t)) = encL Rn.cells (d.take (d.length - 1) ++ [{ lastR d with t := t }]) := by
  have hl : 0 < d.length := List.length_pos_iff.2 h
  conv => lhs; rw [last_split d h]
  rw [encL_snoc, encL_snoc]
  have hlen : (encL Rn.cells (d.take (d.length - 1))).length = (d.length - 1) * 5 := by
    rw [encL_len Rn.cells_len, List.length_take, Nat.min_eq_left (by omega)]
  rw [show (List.take (d.length - 1) d ++ [lastR d]).length = d.length by simp; omega]
  rw [List.set_append_right _ _ (by omega), hlen, Nat.sub_self]
  rfl
theorem info111 : (Tryz.prog.info? 111).map (fun i => (i.zero, i.size, i.bytes)) = some (some (.agg #[.string ⟨#[]⟩, .int .u8 0, .bool false, .bool false, .string ⟨#[]⟩]), 5, 40) := by kernel_rfl
end Go.Proofs.YtgiaohccebolpaaGreatDoor
namespace Go.Proofs.YtgiaohccebolpaaGreatDoor
open Go Go.RowKit
open Go.Lib hiding intOf
set_option linter.unusedVariables false
/-! ### clones -/
theorem info71 : (Tryz.prog.info? 71).map (fun i => (i.zero, i.size, i.bytes)) = some (some (.agg #[.slice none 0 0]), 1, 24) := by kernel_rfl
set_option maxHeartbeats 4000000 in
set_option maxRecDepth 100000 in
theorem clone_runs (v : Value) (n : Nat) (xs : List Value) (w : World) (hR : RowR w 5 v n xs) (h1 : ∀ u ∈ xs, u.oneCell' = true) (hn : n ≤ 1048576) :
    Calls Tryz.prog 102 #[v] w (Made w.heap.size 111 5 n xs w) := by
  obtain ⟨i0, hi, iz0, iz1, iz2⟩ := info_parts info111
  have q69 : ∀ (w : World) (a : Option Addr) (n c n' c' : Nat), (binOp .eql 69 (.slice a n c) (.slice none n' c')).run Tryz.prog w = .ok (.bool a.isNone) w := fun w a n c n' c' => Lib.run_eql_slice_nil w _ _ a n c n' c' Tryz.underlying69
  rcases hR.form with ⟨rfl, rfl⟩ | ⟨g, cap, rfl⟩
  · have hx : xs = [] := List.length_eq_zero_iff.1 (by have := hR.1; omega)
    subst hx
    go_enter Tryz.func102, Tryz.ntmps102
    go_wp2_with fail
    go_ret
    exact ⟨_, rfl, World.ownsRow_nil _ _ _ _, Below.refl _ _⟩
  · have HR := Lib.hid hR
    clear hR
    go_enter Tryz.func102, Tryz.ntmps102
    go_wp2_with (at_builtin; refine wpList_append_row rfl _ _ 69 rfl w.heap.size 111 i0 _ 5 40 Tryz.underlying69 hi iz0 iz1 iz2 rfl (by decide) _ _ _ rfl (World.ownsRow_made w #[] 0 (Nat.le_refl _) (Nat.zero_le _) (by simp)) _ n xs rfl (HR.out.alloc _) h1 ?c3 ?c4 ?c5 ?_)
    case c3 => unfold maxLen; omega
    case c4 => omega
    case c5 => simp
    intro v' w1 hown hgrow _
    go_wp2_with fail
    go_ret
    refine ⟨v', rfl, by simpa using hown, ?_⟩
    exact ((Below.refl _ w).alloc (Nat.le_refl _) _).grown hgrow (by simp) (by intro k hk; simp [Value.ownBlock] at hk; omega)
set_option maxHeartbeats 4000000 in
set_option maxRecDepth 100000 in
theorem clone_rows (v : Value) (n : Nat) (xs : List Value) (w : World) (hR : RowR w 1 v n xs) (h1 : ∀ u ∈ xs, u.oneCell' = true) (hn : n ≤ 1048576) :
    Calls Tryz.prog 101 #[v] w (Made w.heap.size 71 1 n xs w) := by
  obtain ⟨i0, hi, iz0, iz1, iz2⟩ := info_parts info71
  have q61 : ∀ (w : World) (a : Option Addr) (n c n' c' : Nat), (binOp .eql 61 (.slice a n c) (.slice none n' c')).run Tryz.prog w = .ok (.bool a.isNone) w := fun w a n c n' c' => Lib.run_eql_slice_nil w _ _ a n c n' c' Tryz.underlying61
  rcases hR.form with ⟨rfl, rfl⟩ | ⟨g, cap, rfl⟩
  · have hx : xs = [] := List.length_eq_zero_iff.1 (by have := hR.1; omega)
    subst hx
    go_enter Tryz.func101, Tryz.ntmps101
    go_wp2_with fail
    go_ret
    exact ⟨_, rfl, World.ownsRow_nil _ _ _ _, Below.refl _ _⟩
  · have HR := Lib.hid hR
    clear hR
    go_enter Tryz.func101, Tryz.ntmps101
    go_wp2_with (at_builtin; refine wpList_append_row rfl _ _ 61 rfl w.heap.size 71 i0 _ 1 24 Tryz.underlying61 hi iz0 iz1 iz2 rfl (by decide) _ _ _ rfl (World.ownsRow_made w #[] 0 (Nat.le_refl _) (Nat.zero_le _) (by simp)) _ n xs rfl (HR.out.alloc _) h1 ?c3 ?c4 ?c5 ?_)
    case c3 => unfold maxLen; omega
    case c4 => omega
    case c5 => simp
    intro v' w1 hown hgrow _
    go_wp2_with fail
    go_ret
    refine ⟨v', rfl, by simpa using hown, ?_⟩
    exact ((Below.refl _ w).alloc (Nat.le_refl _) _).grown hgrow (by simp) (by intro k hk; simp [Value.ownBlock] at hk; omega)
end Go.Proofs.YtgiaohccebolpaaGreatDoor
namespace Go.Proofs.YtgiaohccebolpaaGreatDoor
open Go Go.RowKit
open Go.Lib hiding intOf
set_option linter.unusedVariables false
/-- A row by value, of the call's own. -/
def MadeRow (B : Nat) (L : Rw) (w : World) (e : Ending) (w' : World) : Prop := ∃ va, e = .returned (.agg #[va]) ∧ w'.ownsRow B 111 5 va L.length (encL Rn.cells L) ∧ Below w.heap.size w w'
theorem blk_other {w : World} {b c o : Nat} {ob : Obj} {u : Value} (h : w.heap[b]? = some ob) (hne : b ≠ c) : (w.setCell ⟨c, o, none⟩ u).heap[b]? = some ob := by
  rw [heap_setCell_other w ⟨c, o, none⟩ b u hne]; exact h
theorem nm_ne {w : World} {B b c : Nat} {cs ds : Array Value} {E F : TypeId} (h1 : w.heap[b]? = some (.cells cs E (0, 0))) (h2 : w.heap[c]? = some (.cells ds F (0, 0))) (hE : E ≠ F) : b ≠ c := by
  rintro rfl; rw [h1] at h2; injection h2 with h2; injection h2 with _ h2; exact hE h2
theorem own_at5 {w : World} {B g c : Nat} {d : Rw} (h : w.ownsRow B 111 5 (.slice (some ⟨g, 0, none⟩) d.length c) d.length (encL Rn.cells d)) (i : Nat) (hi : i < d.length) :
    w.cell? ⟨g, i * 5, none⟩ = some (.string (ba (d.getD i default).t)) ∧ w.cell? ⟨g, i * 5 + 1, none⟩ = some (.int .u8 ((d.getD i default).c : Int)) ∧ w.cell? ⟨g, i * 5 + 2, none⟩ = some (.bool (d.getD i default).i) ∧
      w.cell? ⟨g, i * 5 + 3, none⟩ = some (.bool (d.getD i default).u) ∧ w.cell? ⟨g, i * 5 + 4, none⟩ = some (.string (ba (d.getD i default).r)) ∧ w.frozen? ⟨g, i * 5, none⟩ = false ∧ g < w.heap.size := by
  obtain ⟨h0, h1, h2, h3, h4⟩ := RunsR.at (RowR.of_own h) rfl i hi
  simp only [Nat.zero_add] at h0 h1 h2 h3 h4
  exact ⟨h0, h1, h2, h3, h4, h.frozenAt _, own_lt h rfl⟩
set_option maxHeartbeats 8000000 in
set_option maxRecDepth 100000 in
theorem norm_any (v : Value) (L : Rw) (w : World) (hR : RunsR w v L) (hn : L.length ≤ 1048576) (hT : tot L ≤ 1048576) :
    Calls Tryz.prog 81 #[v] w (MadeRow w.heap.size (normR L) w) := by
  obtain ⟨i0, hi, iz0, iz1, iz2⟩ := info_parts info111
  obtain ⟨a, c, rfl⟩ := RowR.len hR
  obtain ⟨Z, hZ⟩ : ∃ Z, (L.drop 0).foldl nstep [] = Z := ⟨_, rfl⟩
  have hnr : normR L = Z := by rw [← hZ, List.drop_zero]; rfl
  rw [hnr]
  clear hnr
  have HZ := Lib.hid hZ
  have HR := Lib.hid hR
  have HT : Hid (tot [] + tot (L.drop 0) ≤ 1048576) := Lib.hid (by rw [List.drop_zero]; simpa [tot] using hT)
  have HD := Lib.hid (drop_cons L)
  clear hZ hR hT
  go_enter Tryz.func81, Tryz.ntmps81
  go_wp2_with fail
  go_loopw [9] (fun v wx => ∃ (i : Nat) (d : Rw) (va : Value), v = .int .i64 i ∧ i ≤ L.length ∧ d.length ≤ i ∧ Hid (wx.heap[w.heap.size + 1]? = some (.cells #[va] 71 (0, 0))) ∧ Hid (wx.heap[w.heap.size]? = some (.cells #[.slice none 0 0] 71 (0, 0))) ∧ wx.ownsRow w.heap.size 111 5 va d.length (encL Rn.cells d) ∧ Hid ((L.drop i).foldl nstep d = Z) ∧ Hid (tot d + tot (L.drop i) ≤ 1048576) ∧ Hid (Below w.heap.size w wx)) (fun v _ => L.length - (intOf v).toNat)
  case atStart => exact ⟨0, [], _, rfl, Nat.zero_le _, by simp, Lib.hid (heap_alloc2_new w _ _), Lib.hid (heap_alloc2_old w _ _), World.ownsRow_nil _ _ _ _, HZ, HT, Lib.hid ((below1 _ (Nat.le_refl _)).alloc (by simp) _)⟩
  case round =>
    clear HZ HT
    obtain ⟨i, d, va, rfl, hil, hdi, HB1, HB0, hown, HZ, HT, HB⟩ := hrel
    obtain ⟨o1, of1, olt1⟩ := blk1 HB1.out
    have of1 := of1 0
    obtain ⟨p1, pf1, plt1⟩ := blk1 HB0.out
    have pf1 := pf1 0
    have hsz := HB.out.size
    by_cases hlt : i < L.length
    · have hiz : (i : Int) < (L.length : Int) := by omega
      have hR := HR.out.below HB.out
      obtain ⟨g, off, rfl, hg, _⟩ := hR.addr (by omega)
      obtain ⟨c0, c1, c2, c3, c4⟩ := RunsR.at hR rfl i hlt
      have hz := HZ.out
      have ht := HT.out
      rw [HD.out i hlt] at hz ht
      rw [List.foldl_cons, nstep_def] at hz
      clear hR HZ HT
      generalize L.getD i default = X at *
      have htX : X.t.length + tot (L.drop (i + 1)) + tot d ≤ 1048576 := by simp [tot] at ht ⊢; omega
      clear ht
      have hem := ba_empty X.t
      go_upto_region 5 with fail
      refine world_as (fun W => Below wr.heap.size wr W ∧ W.heap[wr.heap.size]? = some (.cells #[.string (ba X.t), .int .u8 (X.c : Int), .bool X.i, .bool X.u, .string (ba X.r)] 111 (0, 0))) ⟨below1 _ (Nat.le_refl _), heap_alloc_new wr _⟩ ?_
      rintro W ⟨hbr, hBx⟩
      have HBx := Lib.hid hBx
      have R1 : Hid (W.heap[w.heap.size + 1]? = some (.cells #[va] 71 (0, 0))) := Lib.hid (blk_stay HB1.out hbr)
      have R0 : Hid (W.heap[w.heap.size]? = some (.cells #[.slice none 0 0] 71 (0, 0))) := Lib.hid (blk_stay HB0.out hbr)
      have hown := own_stays hown hbr
      have HB := Lib.hid (below_grow HB.out hsz hbr)
      clear c0 c1 c2 c3 c4 hBx o1 of1 olt1 p1 pf1 plt1 HB1 HB0 hsz
      obtain ⟨o1, of1, olt1⟩ := blk1 R1.out
      have of1 := of1 0
      obtain ⟨c0, c1, c2, c3, c4, cf, hlt0⟩ := blk5 HBx.out
      have hsz := HB.out.size
      obtain ⟨av, cv, rfl⟩ := own_len hown
      by_cases hx : X.t = []
      · have HZ2 : Hid ((L.drop (i + 1)).foldl nstep d = Z) := Lib.hid (by rw [if_pos hx] at hz; exact hz)
        have HT2 : Hid (tot d + tot (L.drop (i + 1)) ≤ 1048576) := Lib.hid (by omega)
        have hem2 : (ba X.t).toList.isEmpty = true := by rw [hem]; simpa using hx
        clear hz hem hx htX
        go_wp2_with fail
        go_roundw
        case rel => exact ⟨i + 1, d, _, by go_num, by omega, by omega, R1, R0, hown, HZ2, HT2, HB⟩
        case measure => simp [intOf]; omega
      have hem2 : (ba X.t).toList.isEmpty = false := by rw [hem]; simpa using hx
      clear hem
      rw [if_neg hx] at hz
      by_cases hd : d = []
      · have HZ2 : Hid ((L.drop (i + 1)).foldl nstep (d ++ [X]) = Z) := Lib.hid (by rw [if_neg (by simp [hd])] at hz; exact hz)
        have HT2 : Hid (tot (d ++ [X]) + tot (L.drop (i + 1)) ≤ 1048576) := Lib.hid (by rw [tot_app]; simp [tot] at htX ⊢; omega)
        have hd0 : decide (0 < d.length) = false := by simp [hd]
        clear hz hx htX hd
        go_wp2_with fail
        go_quiet (fail)
        go_upto_region 6 with fail
        refine world_as (fun W2 => Below W.heap.size W W2) (below_dn (Below.refl _ _) _) ?_
        rintro W2 hb4
        clear o1 of1 olt1 c0 c1 c2 c3 c4 cf hlt0
        have R1 := Lib.hid (blk_stay R1.out hb4)
        have R0 := Lib.hid (blk_stay R0.out hb4)
        have hown := own_stays hown hb4
        have HB := Lib.hid (below_grow HB.out HB.out.size hb4)
        obtain ⟨o1, of1, olt1⟩ := blk1 R1.out
        obtain ⟨c0, c1, c2, c3, c4, cf, hlt0⟩ := blk5 (blk_stay HBx.out hb4)
        have hsz := HB.out.size
        go_wp2_with (at_builtin; refine wpList_append_row rfl _ _ 69 rfl w.heap.size 111 i0 _ 5 40 Tryz.underlying69 hi iz0 iz1 iz2 rfl (by decide) _ _ _ rfl (hown.alloc _) _ 1 _ rfl (lit_row _ _ _ rfl rfl) (one_lit rfl) ?c3 ?c4 ?c5 ?_)
        case c3 => unfold maxLen; omega
        case c4 => omega
        case c5 => simp; omega
        intro v' w2 hown' hgrow _
        obtain ⟨av', cv', rfl⟩ := own_len hown'
        have hown2 : w2.ownsRow w.heap.size 111 5 (.slice av' (d.length + 1) cv') (d ++ [X]).length (encL Rn.cells (d ++ [X])) := by rw [List.length_append, encL_snoc]; exact hown'
        have R1' := Lib.hid (app_grow R1.out (below1 _ (Nat.le_refl _)) (hown.alloc _) (by decide) hgrow)
        have R0' := Lib.hid (app_grow R0.out (below1 _ (Nat.le_refl _)) (hown.alloc _) (by decide) hgrow)
        have HB' := Lib.hid (app_step (hown.alloc _) (HB.out.alloc hsz _) (by simp; omega) hgrow)
        have HO := Lib.hid hown2
        clear hown hown' hown2 hgrow o1 of1 olt1 c0 c1 c2 c3 c4 cf hlt0 R1 R0 HB
        obtain ⟨o1, of1, olt1⟩ := blk1 R1'.out
        have of1 := of1 0
        go_wp2_with fail
        go_roundw
        case rel => exact ⟨i + 1, d ++ [X], _, by go_num, by omega, by simp; omega, Lib.hid (blk_set R1'.out), Lib.hid (blk_other R0'.out (Nat.ne_of_lt (Nat.lt_succ_self _))), row_far (by decide) R1'.out HO.out, HZ2, HT2, Lib.hid (HB'.out.setCell (Nat.le_succ _) _)⟩
        case measure => simp [intOf]; omega
      have hdl : 0 < d.length := List.length_pos_iff.2 hd
      obtain ⟨gv, rfl, _⟩ := own_addr hown hdl
      obtain ⟨q0, q1, q2, q3, q4, qf, qlt⟩ := own_at5 hown (d.length - 1) (by omega)
      rw [show d.getD (d.length - 1) default = lastR d from rfl] at q0 q1 q2 q3 q4
      have cA := fun w => alike_any (ba (lastR d).t) (ba X.t) (ba (lastR d).r) (ba X.r) ((lastR d).c : Int) (X.c : Int) (lastR d).i (lastR d).u X.i X.u w
      rw [show alkV ((lastR d).c : Int) (X.c : Int) (lastR d).i (lastR d).u X.i X.u (ba (lastR d).r) (ba X.r) = alk (lastR d) X from rfl] at cA
      have hdi1 : (1 : Int) ≤ (d.length : Int) := by omega
      have hdk : (0 : Int) ≤ (d.length : Int) - 1 := by omega
      have hdm : (d.length : Int) - 1 < (d.length : Int) := by omega
      have hdn : (d.length : Int) ≤ 1048576 := by omega
      have htn : ((d.length : Int) - 1).toNat = d.length - 1 := by omega
      have hwr : IntKind.i64.wrap ((d.length : Int) - 1) = (d.length : Int) - 1 := IntWalk.i64_in _ (by omega)
      obtain ⟨AL, hAL⟩ : ∃ AL, alk (lastR d) X = AL := ⟨_, rfl⟩
      rw [hAL] at cA hz
      cases AL
      · have HZ2 : Hid ((L.drop (i + 1)).foldl nstep (d ++ [X]) = Z) := Lib.hid (by rw [if_neg (by simp)] at hz; exact hz)
        have HT2 : Hid (tot (d ++ [X]) + tot (L.drop (i + 1)) ≤ 1048576) := Lib.hid (by rw [tot_app]; simp [tot] at htX ⊢; omega)
        clear hz hx htX hd hAL
        have htnw := Lib.hid (And.intro htn hwr)
        clear htn hwr
        go_wp2_with fail
        obtain ⟨htn, hwr⟩ := htnw.out
        go_still_tail 10, (by kernel_rfl)
        clear hwr htn
        change wpList _ _ _ _ _ W.drew
        go_wp2_with fail
        refine (cA _).mono ?_
        rintro e w4 ⟨rfl, hb4'⟩
        have hb4 : Below W.heap.size W w4 := ⟨hb4'.os, hb4'.tape, hb4'.output, hb4'.size, hb4'.block⟩
        clear hb4' o1 of1 olt1 c0 c1 c2 c3 c4 cf hlt0 q0 q1 q2 q3 q4 qf qlt
        have R1 := Lib.hid (blk_stay R1.out hb4)
        have R0 := Lib.hid (blk_stay R0.out hb4)
        have hown := own_stays hown hb4
        have HB := Lib.hid (below_grow HB.out HB.out.size hb4)
        obtain ⟨o1, of1, olt1⟩ := blk1 R1.out
        obtain ⟨c0, c1, c2, c3, c4, cf, hlt0⟩ := blk5 (blk_stay HBx.out hb4)
        have hsz := HB.out.size
        go_wp2_with (at_builtin; refine wpList_append_row rfl _ _ 69 rfl w.heap.size 111 i0 _ 5 40 Tryz.underlying69 hi iz0 iz1 iz2 rfl (by decide) _ _ _ rfl (hown.alloc _) _ 1 _ rfl (lit_row _ _ _ rfl rfl) (one_lit rfl) ?c3 ?c4 ?c5 ?_)
        case c3 => unfold maxLen; omega
        case c4 => omega
        case c5 => simp; omega
        intro v' w2 hown' hgrow _
        obtain ⟨av', cv', rfl⟩ := own_len hown'
        have hown2 : w2.ownsRow w.heap.size 111 5 (.slice av' (d.length + 1) cv') (d ++ [X]).length (encL Rn.cells (d ++ [X])) := by rw [List.length_append, encL_snoc]; exact hown'
        have R1' := Lib.hid (app_grow R1.out (below1 _ (Nat.le_refl _)) (hown.alloc _) (by decide) hgrow)
        have R0' := Lib.hid (app_grow R0.out (below1 _ (Nat.le_refl _)) (hown.alloc _) (by decide) hgrow)
        have HB' := Lib.hid (app_step (hown.alloc _) (HB.out.alloc hsz _) (by simp; omega) hgrow)
        have HO := Lib.hid hown2
        clear hown hown' hown2 hgrow o1 of1 olt1 c0 c1 c2 c3 c4 cf hlt0 R1 R0 HB
        obtain ⟨o1, of1, olt1⟩ := blk1 R1'.out
        have of1 := of1 0
        go_wp2_with fail
        go_roundw
        case rel => exact ⟨i + 1, d ++ [X], _, by go_num, by omega, by simp; omega, Lib.hid (blk_set R1'.out), Lib.hid (blk_other R0'.out (Nat.ne_of_lt (Nat.lt_succ_self _))), row_far (by decide) R1'.out HO.out, HZ2, HT2, Lib.hid (HB'.out.setCell (Nat.le_succ _) _)⟩
        case measure => simp [intOf]; omega
      · have HZ2 : Hid ((L.drop (i + 1)).foldl nstep (d.take (d.length - 1) ++ [{ lastR d with t := (lastR d).t ++ X.t }]) = Z) := Lib.hid (by rw [if_pos ⟨hd, rfl⟩] at hz; exact hz)
        have HT2 : Hid (tot (d.take (d.length - 1) ++ [{ lastR d with t := (lastR d).t ++ X.t }]) + tot (L.drop (i + 1)) ≤ 1048576) := Lib.hid (by rw [tot_last d hd]; omega)
        have HS := Lib.hid (set_last d hd ((lastR d).t ++ X.t))
        have HC := Lib.hid (ba_app (lastR d).t X.t)
        have hl1 := last_fit d hd
        have hs1 : (ba (lastR d).t).size ≤ 1048576 := by rw [ba_size]; omega
        have hs2 : (ba X.t).size ≤ 1048576 := by rw [ba_size]; omega
        have hs3 : ¬ ((ba (lastR d).t).size + (ba X.t).size > 9223372036854775807) := by omega
        clear hz hx htX hd hAL hl1
        have htnw := Lib.hid (And.intro htn hwr)
        clear htn hwr
        go_wp2_with fail
        obtain ⟨htn, hwr⟩ := htnw.out
        go_still_tail 10, (by kernel_rfl)
        clear hwr htn
        change wpList _ _ _ _ _ W.drew
        go_wp2_with fail
        refine (cA _).mono ?_
        rintro e w4 ⟨rfl, hb4'⟩
        have hb4 : Below W.heap.size W w4 := ⟨hb4'.os, hb4'.tape, hb4'.output, hb4'.size, hb4'.block⟩
        clear hb4' o1 of1 olt1 c0 c1 c2 c3 c4 cf hlt0 q0 q1 q2 q3 q4 qf qlt
        have R1 := Lib.hid (blk_stay R1.out hb4)
        have R0 := Lib.hid (blk_stay R0.out hb4)
        have hown := own_stays hown hb4
        have HB := Lib.hid (below_grow HB.out HB.out.size hb4)
        obtain ⟨o1, of1, olt1⟩ := blk1 R1.out
        obtain ⟨c0, c1, c2, c3, c4, cf, hlt0⟩ := blk5 (blk_stay HBx.out hb4)
        obtain ⟨q0, q1, q2, q3, q4, qf, qlt⟩ := own_at5 hown (d.length - 1) (by omega)
        rw [show d.getD (d.length - 1) default = lastR d from rfl] at q0 q1 q2 q3 q4
        have hsz := HB.out.size
        go_wp2_with fail
        obtain ⟨htn, hwr⟩ := htnw.out
        go_still_tail 12, (by kernel_rfl)
        clear hwr htn
        change wpList _ _ _ _ _ w4.drew
        go_wp2_with fail
        have ne1 : w.heap.size + 1 ≠ gv := fun e => blk_ne (by decide) R1.out (own_base hown) (congrArg some e.symm)
        have ne0 : w.heap.size ≠ gv := fun e => blk_ne (by decide) R0.out (own_base hown) (congrArg some e.symm)
        have hge := (hown.lt gv rfl).1
        have hdl' : (d.take (d.length - 1) ++ [{ lastR d with t := (lastR d).t ++ X.t }]).length = d.length := by simp; omega
        have hst := (hown.stored ((d.length - 1) * 5) (.string (ba ((lastR d).t ++ X.t)))).1
        rw [HS.out] at hst
        rw [HC.out]
        go_roundw
        case rel => exact ⟨i + 1, _, _, by go_num, by omega, by rw [hdl']; omega, Lib.hid (blk_other R1.out ne1), Lib.hid (blk_other R0.out ne0), by rw [hdl']; exact hst, HZ2, HT2, Lib.hid ((HB.out.setCell hge _).drew)⟩
        case measure => simp [intOf]; omega
    · obtain rfl : i = L.length := by omega
      have hz := HZ.out
      rw [List.drop_length] at hz
      have HQ := Lib.hid hz
      clear hz HZ HT
      have hiz : ¬ (L.length : Int) < (L.length : Int) := by omega
      obtain ⟨av, cv, rfl⟩ := own_len hown
      go_wp2_with fail
      exact bodyPost_ret (results_cell_row Tryz.results81 _ _ _ _ _ _ _ rfl (blk_set HB0.out) Tryz.underlying71 rfl (by kernel_rfl)) rfl ⟨_, rfl, by rw [← HQ.out]; exact row_far (by decide) HB0.out hown, HB.out.setCell (Nat.le_refl _) _⟩
end Go.Proofs.YtgiaohccebolpaaGreatDoor
