import Derived.Test.YtgiaohccebolpaaGreatDoorQ19
namespace Go.Proofs.YtgiaohccebolpaaGreatDoor
open Go Go.RowKit
open Go.Lib hiding intOf
set_option linter.unusedVariables false
/-! ### the file's lines are blocks that can be read -/
def vis (l : List UInt8) : Prop := ∀ b ∈ l, 32 ≤ b.toNat
theorem vis_lf {l : List UInt8} (h : vis l) : 10 ∉ l := fun hm => by have := h _ hm; simp at this
theorem vis_trim {l : List UInt8} (h : vis l) : Lib.trimSuffix l [13] = l := by
  unfold Lib.trimSuffix
  rw [if_neg]
  unfold Lib.hasSuffix
  intro hs
  have := (List.isSuffixOf_iff_suffix.1 hs).subset (a := 13) (by simp)
  have := h _ this
  simp at this
theorem vis_app {a b : List UInt8} (ha : vis a) (hb : vis b) : vis (a ++ b) := fun x hx => (List.mem_append.1 hx).elim (ha x) (hb x)
theorem vis_digs {l : List UInt8} (h : digs l) : vis l := fun b hb => by have := h b hb; omega
theorem digs_app {a b : List UInt8} (ha : digs a) (hb : digs b) : digs (a ++ b) := fun x hx => (List.mem_append.1 hx).elim (ha x) (hb x)
theorem vis_clk {m : Nat} (h : m ≤ 359999999) : vis (clk m) := by
  have v1 := vis_digs (digs_d2 (v := m / 1000 / 3600) (by omega)).1
  have v2 := vis_digs (digs_d2 (v := m / 1000 / 60 % 60) (by omega)).1
  have v3 := vis_digs (digs_d2 (v := m / 1000 % 60) (by omega)).1
  have v4 := vis_digs (digs_d3 (v := m % 1000) (by omega)).1
  have c : vis [58] := by intro b hb; simp at hb; subst hb; decide
  have k : vis [44] := by intro b hb; simp at hb; subst hb; decide
  unfold clk
  exact vis_app (vis_app (vis_app (vis_app (vis_app (vis_app v1 c) v2) c) v3) k) v4
theorem vis_tim {a b : Nat} (ha : a ≤ 359999999) (hb : b ≤ 359999999) : vis (timL a b) := by
  unfold timL
  refine vis_app (vis_app (vis_clk ha) ?_) (vis_clk hb)
  intro x hx
  simp at hx
  rcases hx with rfl | rfl | rfl | rfl <;> decide
theorem vis_mkL {L : Rw} (h : ∀ x ∈ L, validC x.t = true) : vis (mkL L) := by
  intro b hb
  obtain ⟨x, hx, hbx⟩ := List.mem_flatMap.1 hb
  have hv : vis x.t := fun c hc => valid_ge (h x hx) c hc
  have t1 : vis [60, 117, 62] := by intro c hc; simp at hc; rcases hc with rfl | rfl | rfl <;> decide
  have t2 : vis [60, 47, 117, 62] := by intro c hc; simp at hc; rcases hc with rfl | rfl | rfl | rfl <;> decide
  have t3 : vis [60, 105, 62] := by intro c hc; simp at hc; rcases hc with rfl | rfl | rfl <;> decide
  have t4 : vis [60, 47, 105, 62] := by intro c hc; simp at hc; rcases hc with rfl | rfl | rfl | rfl <;> decide
  have hu : vis (if x.u = true then uT x.t else x.t) := by
    split
    · exact vis_app (vis_app t1 hv) t2
    · exact hv
  have hr : vis (runM x) := by
    unfold runM
    split
    · exact vis_app (vis_app t3 hu) t4
    · exact hu
  exact hr b hbx
theorem vis_mkR {L : Rw} (h : markE L = 0) : vis (mkR L) := vis_mkL (valid_carR (scE_all (markE_zero h).1))
theorem mkR_ne {L : Rw} (h : rowE L = 0) : mkR L ≠ [] := by
  obtain ⟨_, hb, _⟩ := rowE_zero h
  have hp : plainR (carR L) ≠ [] := by
    rw [plain_carR]
    intro e
    rw [e] at hb
    simp [badT] at hb
  intro e
  apply hp
  unfold plainR
  rw [List.flatMap_eq_nil_iff]
  intro x hx
  have h2 : runM x = [] := List.flatMap_eq_nil_iff.1 (show (carR L).flatMap runM = [] from e) x hx
  unfold runM uT iT at h2
  split at h2
  · simp at h2
  · split at h2
    · simp at h2
    · exact h2
/-! ### a frame, written in milliseconds and read back -/
theorem quo_back {f T : Int} (hT : 2002 ≤ T) (h0 : 0 ≤ f) : quo (quo (f * T) 120 * 120) T = f := by
  have hq : ∃ e : Int, quo (f * T) 120 * 120 = f * T + e ∧ -60 ≤ e ∧ e ≤ 60 := by
    refine ⟨quo (f * T) 120 * 120 - f * T, by omega, ?_, ?_⟩
    · unfold quo; split <;> omega
    · unfold quo; split <;> omega
  obtain ⟨e, he, e1, e2⟩ := hq
  rw [he]
  rcases Int.lt_or_le e 0 with hn | hn
  · have hu := (Int.ediv_emod_unique (a := f * T + e) (b := T) (r := T + e) (q := f - 1) (by omega)).2 ⟨by rw [Int.mul_sub, Int.mul_comm T f]; omega, by omega, by omega⟩
    unfold quo
    rw [hu.1, hu.2, if_pos (by omega)]; omega
  · have hu := (Int.ediv_emod_unique (a := f * T + e) (b := T) (r := e) (q := f) (by omega)).2 ⟨by rw [Int.mul_comm T f]; omega, by omega, by omega⟩
    unfold quo
    rw [hu.1, hu.2, if_neg (by omega)]; omega
theorem ms_cap {f T : Int} (hT : 2002 ≤ T) (h0 : 0 ≤ f) (hc : f * T ≤ 10378368000) : msOf T f ≤ 86486400 ∧ quo ((msOf T f : Int) * 120) T = f := by
  obtain ⟨h1, h2⟩ := ms_ok T f hT h0 hc
  constructor
  · have : quo (f * T) 120 ≤ 86486400 := by unfold quo; split <;> omega
    omega
  · rw [← h1]; exact quo_back hT h0
/-! ### the lines -/
def blkLines (T : Int) (n : Nat) (e : Ev) : List (List UInt8) := Lib.decDigits n :: timL (msOf T e.inn) (msOf T e.out) :: (e.rows.map mkR ++ [[]])
def linesK (T : Int) (evs : List Ev) : Nat → Nat → List (List UInt8)
  | _, 0 => []
  | j, k + 1 => blkLines T (j + 1) (evs.getD j default) ++ linesK T evs (j + 1) k
theorem joinL_app (a b : List (List UInt8)) : joinL (a ++ b) = joinL a ++ joinL b := by simp [joinL]
theorem join_rows (rows : List Rw) : joinL (rows.map mkR) = rowsM rows := by simp [joinL, rowsM, List.flatMap_map]
theorem join_blk (T : Int) (n : Nat) (e : Ev) : joinL (blkLines T n e) = blkL T n e := by
  unfold blkLines blkL blkH timL
  show (Lib.decDigits n ++ [10]) ++ ((clk (msOf T e.inn) ++ [32, 45, 45, 62, 32] ++ clk (msOf T e.out) ++ [10]) ++ joinL (e.rows.map mkR ++ [[]])) = _
  rw [joinL_app, join_rows]
  show _ = _
  simp [joinL]
theorem join_lines (T : Int) (evs : List Ev) : ∀ k j, encB T evs j ++ joinL (linesK T evs j k) = encB T evs (j + k)
  | 0, j => by simp [linesK, joinL]
  | k + 1, j => by
    show encB T evs j ++ joinL (blkLines T (j + 1) (evs.getD j default) ++ linesK T evs (j + 1) k) = _
    rw [joinL_app, join_blk, ← List.append_assoc, ← encB_succ, join_lines T evs k (j + 1), show j + 1 + k = j + (k + 1) by omega]
theorem good_lines {r : Nat} : ∀ (rl rest acc : List (List UInt8)) (evs fin : List Ev), (∀ l ∈ rl, l ≠ [] ∧ Lib.trimSuffix l [13] = l) → Good r rest (acc ++ rl) evs fin → Good r (rl ++ rest) acc evs fin
  | [], rest, acc, evs, fin, _, h => by simpa using h
  | l :: rl, rest, acc, evs, fin, hl, h => by
    obtain ⟨h1, h2⟩ := hl l List.mem_cons_self
    refine ⟨h2, fun _ => ?_, fun e => absurd e h1, fun e => absurd e h1⟩
    exact good_lines rl rest (acc ++ [l]) evs fin (fun x hx => hl x (List.mem_cons_of_mem _ hx)) (by simpa using h)
theorem good_end {r : Nat} (evs : List Ev) : Good r [[], []] [] evs evs :=
  ⟨rfl, fun h => absurd rfl h, fun _ _ => ⟨rfl, fun h => absurd rfl h, fun _ _ => ⟨rfl, rfl⟩, fun _ h => absurd rfl h⟩, fun _ h => absurd rfl h⟩
structure EvGood (r : Nat) (e : Ev) : Prop where
  ev : ∃ R, evE R e = 0
  bl : blkE (ticksOf r) e = 0
  ln : ∀ x ∈ e.rows, (mkR x).length ≤ 262144
theorem ok_ticks {r : Nat} (h : okRate r = true) : 2002 ≤ ticksOf r := by
  rcases ticks_cases r with ⟨_, h2⟩ | ⟨h1, _, _⟩
  · rw [h] at h2; cases h2
  · exact h1
theorem good_blk {r : Nat} (hok : okRate r = true) {e : Ev} (hg : EvGood r e) (j : Nat) (hj : j < 9) : BlkOk r (Lib.decDigits (j + 1)) (msOf (ticksOf r) e.inn) (msOf (ticksOf r) e.out) e.inn e.out (e.rows.map mkR) (j + 1) ∧ (e.rows.map mkR).map pm = e.rows.map carR := by
  obtain ⟨R, hev⟩ := hg.ev
  obtain ⟨_, hs, r1, _, h2⟩ := evE_zero hev
  obtain ⟨h3, h4, h5⟩ := evE2_zero h2
  obtain ⟨b1, b2, b3⟩ := blkE_zero hg.bl
  have hT := ok_ticks hok
  rw [okSpan_eq] at hs
  have hs := of_decide_eq_true hs
  obtain ⟨m1, q1⟩ := ms_cap hT hs.1 b1
  obtain ⟨m2, q2⟩ := ms_cap hT (by omega) b2
  have hpm : (e.rows.map mkR).map pm = e.rows.map carR := by
    rw [List.map_map]
    exact List.map_congr_left fun x hx => pm_mkR (b3 x hx)
  have hdd : Lib.decDigits (j + 1) = [UInt8.ofNat (48 + (j + 1))] := Lib.decDigits_one (by omega)
  have hd1 := d_nat (k := j + 1) (by omega)
  refine ⟨⟨?_, by rw [hdd]; exact Nat.le_refl _, by rw [hdd]; show 1 ≤ 9; omega, m1, m2, q1, q2, b1, b2, by simpa using h3, by simpa using h4, ?_, ?_⟩, hpm⟩
  · rw [hdd]
    intro b hb
    simp only [List.mem_singleton] at hb
    subst hb
    rw [hd1]; omega
  · intro x hx
    obtain ⟨y, hy, rfl⟩ := List.mem_map.1 hx
    exact hg.ln y hy
  · rw [hpm]
    exact evE_red hev (j + 1) (by omega) (by omega)
theorem good_all {r : Nat} (hok : okRate r = true) (evs : List Ev) (hn : evs.length ≤ 9) (hg : ∀ i, i < evs.length → EvGood r (evs.getD i default)) : ∀ k j, j + k = evs.length → Good r (linesK (ticksOf r) evs j k ++ [[], []]) [] (redN evs j) (redN evs (j + k))
  | 0, j, _ => good_end _
  | k + 1, j, h => by
    have hj : j < evs.length := by omega
    obtain ⟨hb, hpm⟩ := good_blk hok (hg j hj) j (by omega)
    have ih := good_all hok evs hn hg k (j + 1) (by omega)
    obtain ⟨R, hev⟩ := (hg j hj).ev
    obtain ⟨_, _, _, _, h2⟩ := evE_zero hev
    obtain ⟨_, _, h5⟩ := evE2_zero h2
    obtain ⟨_, _, b3⟩ := blkE_zero (hg j hj).bl
    rw [redN_succ] at ih
    have e1 : linesK (ticksOf r) evs j (k + 1) ++ [[], []] = (Lib.decDigits (j + 1) :: timL (msOf (ticksOf r) (evs.getD j default).inn) (msOf (ticksOf r) (evs.getD j default).out) :: (evs.getD j default).rows.map mkR) ++ ([] :: (linesK (ticksOf r) evs (j + 1) k ++ [[], []])) := by
      show blkLines (ticksOf r) (j + 1) (evs.getD j default) ++ linesK (ticksOf r) evs (j + 1) k ++ [[], []] = _
      unfold blkLines; simp
    rw [e1, show j + (k + 1) = j + 1 + k by omega]
    have hvd : vis (Lib.decDigits (j + 1)) := vis_digs hb.dg
    have hvt : vis (timL (msOf (ticksOf r) (evs.getD j default).inn) (msOf (ticksOf r) (evs.getD j default).out)) := vis_tim (by have := hb.ms1; omega) (by have := hb.ms2; omega)
    refine good_lines _ _ _ _ _ ?_ ?_
    · intro l hl
      rcases List.mem_cons.1 hl with rfl | hl
      · exact ⟨fun e => by have := hb.ge1; rw [e] at this; simp at this, vis_trim hvd⟩
      · rcases List.mem_cons.1 hl with rfl | hl
        · exact ⟨by unfold timL; simp [clk, d2], vis_trim hvt⟩
        · obtain ⟨y, hy, rfl⟩ := List.mem_map.1 hl
          exact ⟨mkR_ne (rows_all h5 y hy), vis_trim (vis_mkR (b3 y hy))⟩
    · refine ⟨rfl, fun h => absurd rfl h, fun _ h => absurd h (by simp), fun _ _ => ⟨_, _, _, _, _, _, rfl, by rw [redN_len]; omega, by rw [redN_len]; exact hb, ?_⟩⟩
      rw [redN_len, hpm]
      exact ih
theorem lines_vis {r : Nat} (hok : okRate r = true) (evs : List Ev) (hn : evs.length ≤ 9) (hg : ∀ i, i < evs.length → EvGood r (evs.getD i default)) : ∀ k j, j + k = evs.length → ∀ l ∈ linesK (ticksOf r) evs j k, 10 ∉ l
  | 0, j, _, l, hl => by cases hl
  | k + 1, j, h, l, hl => by
    have hj : j < evs.length := by omega
    obtain ⟨hb, _⟩ := good_blk hok (hg j hj) j (by omega)
    obtain ⟨_, _, b3⟩ := blkE_zero (hg j hj).bl
    rcases List.mem_append.1 (show l ∈ blkLines (ticksOf r) (j + 1) (evs.getD j default) ++ linesK (ticksOf r) evs (j + 1) k from hl) with hl | hl
    · unfold blkLines at hl
      rcases List.mem_cons.1 hl with rfl | hl
      · exact vis_lf (vis_digs hb.dg)
      · rcases List.mem_cons.1 hl with rfl | hl
        · exact vis_lf (vis_tim (by have := hb.ms1; omega) (by have := hb.ms2; omega))
        · rcases List.mem_append.1 hl with hl | hl
          · obtain ⟨y, hy, rfl⟩ := List.mem_map.1 hl
            exact vis_lf (vis_mkR (b3 y hy))
          · simp at hl; subst hl; simp
    · exact lines_vis hok evs hn hg k (j + 1) (by omega) l hl
theorem mem_lines (T : Int) (evs : List Ev) : ∀ k j i, j ≤ i → i < j + k → ∀ x ∈ (evs.getD i default).rows, mkR x ∈ linesK T evs j k
  | 0, j, i, h1, h2, x, hx => by omega
  | k + 1, j, i, h1, h2, x, hx => by
    show mkR x ∈ blkLines T (j + 1) (evs.getD j default) ++ linesK T evs (j + 1) k
    rcases Nat.lt_or_eq_of_le h1 with h | h
    · exact List.mem_append_right _ (mem_lines T evs k (j + 1) i (by omega) (by omega) x hx)
    · subst h
      refine List.mem_append_left _ ?_
      unfold blkLines
      exact List.mem_cons_of_mem _ (List.mem_cons_of_mem _ (List.mem_append_left _ (List.mem_map.2 ⟨x, hx, rfl⟩)))
theorem lines_short : ∀ L : List (List UInt8), L.length ≤ (joinL L).length
  | [] => Nat.zero_le _
  | l :: L => by
    have := lines_short L
    have e : (joinL (l :: L)).length = l.length + 1 + (joinL L).length := by simp [joinL]; omega
    rw [e, List.length_cons]; omega
/-- What the reader wants of the file of an accepted document. -/
theorem dec_ready {d : Dc} (h : Enc d) (hn : d.evs.length ≤ 9) : okRate d.rate = true ∧ (d.drop = true → dropOf d.rate = true) ∧ ∃ L, joinL L = encS d ∧ (∀ l ∈ L, 10 ∉ l) ∧ (joinL L).length ≤ 262144 ∧ L.length ≤ 262144 ∧ Good d.rate (L ++ [[], []]) [] [] (redL d.evs) ∧ InOrder (redL d.evs) ∧ evsFit (redL d.evs) := by
  obtain ⟨hr, hn4, hl, hev⟩ := chkE_acc h.chk
  obtain ⟨hok, hdr⟩ := rate_ok hr
  have hj : joinL (linesK (ticksOf d.rate) d.evs 0 d.evs.length) = encS d := by
    have e := join_lines (ticksOf d.rate) d.evs d.evs.length 0
    rw [Nat.zero_add] at e
    exact e
  have hlen : (joinL (linesK (ticksOf d.rate) d.evs 0 d.evs.length)).length ≤ 262144 := by rw [hj]; exact h.len
  have hg : ∀ i, i < d.evs.length → EvGood d.rate (d.evs.getD i default) := by
    intro i hi
    refine ⟨⟨_, (hev i hi).1⟩, h.blk i hi, fun x hx => ?_⟩
    exact Nat.le_trans (line_len _ _ (mem_lines (ticksOf d.rate) d.evs d.evs.length 0 i (Nat.zero_le _) (by omega) x hx)) hlen
  refine ⟨hok, hdr, linesK (ticksOf d.rate) d.evs 0 d.evs.length, hj, lines_vis hok d.evs hn hg _ 0 (by omega), hlen, Nat.le_trans (lines_short _) hlen, ?_, ?_, ?_⟩
  · have := good_all hok d.evs hn hg d.evs.length 0 (by omega)
    rw [Nat.zero_add] at this
    exact this
  · intro i h0 hi
    rw [redL_len] at hi
    have e1 : (redL d.evs).getD i default = redE (i + 1) (d.evs.getD i default) := redN_get _ _ _ hi
    have e2 : (redL d.evs).getD (i - 1) default = redE (i - 1 + 1) (d.evs.getD (i - 1) default) := redN_get _ _ _ (by omega)
    rw [e1, e2, show i - 1 + 1 = i by omega]
    exact ltE_red i (ltE_le ((hev i hi).2 h0))
  · intro e he
    obtain ⟨i, hi, rfl⟩ := List.getElem_of_mem he
    have hi' : i < d.evs.length := by rw [redL_len] at hi; exact hi
    rw [← getD_of hi default]
    have e1 : (redL d.evs).getD i default = redE (i + 1) (d.evs.getD i default) := redN_get _ _ _ hi'
    rw [e1]
    obtain ⟨_, _, r, _, h2⟩ := evE_zero (hev i hi').1
    obtain ⟨_, h4, h5⟩ := evE2_zero h2
    refine ⟨by show ((d.evs.getD i default).rows.map carR).length ≤ 1000; rw [List.length_map]; omega, fun x hx => ?_⟩
    obtain ⟨y, hy, rfl⟩ := List.mem_map.1 (show x ∈ (d.evs.getD i default).rows.map carR from hx)
    have := carR_len y
    have := (scE_at (rowE_zero (rows_all h5 y hy)).1).1
    omega
end Go.Proofs.YtgiaohccebolpaaGreatDoor
namespace Go.Proofs.YtgiaohccebolpaaGreatDoor
open Go Go.RowKit
open Go.Lib hiding intOf
set_option linter.unusedVariables false
/-! ### subrip.Reduce -/
abbrev outC (rate : Nat) (drop : Bool) (n : Nat) (vo : Value) : Array Value := #[.string ⟨#[]⟩, .string ⟨#[]⟩, .int .u8 (rate : Int), .bool drop, .int .i64 (n : Int), .slice none 0 0, vo, .slice none 0 0]
abbrev zer27 : Array Value := #[.string ⟨#[]⟩, .string ⟨#[]⟩, .int .u8 0, .bool false, .int .i64 0, .slice none 0 0, .slice none 0 0, .slice none 0 0]
theorem take_car (rows : List Rw) (i : Nat) (h : i < rows.length) : (rows.map carR).take (i + 1) = (rows.map carR).take i ++ [carR (rows.getD i [])] := by
  rw [List.take_succ_eq_append_getElem (by rw [List.length_map]; exact h), List.getElem_map, getD_of h]
set_option maxHeartbeats 8000000 in
set_option maxRecDepth 100000 in
theorem reduce_ok (v : Value) (d : Dc) (w : World) (hV : DocV w v d) (hf : d.fit) (hE : Env w) (hc : chkE d = 0) (hn : d.evs.length ≤ 400) (hr4 : ∀ e ∈ d.evs, e.rows.length ≤ 4) :
    Calls Tryz.prog 8 #[v] w fun e w' => ∃ v', e = .returned v' ∧ DocV w' v' (redD d) ∧ Below w.heap.size w w' := by
  obtain ⟨i0, hi, iz0, iz1, iz2⟩ := info_parts info71
  obtain ⟨j0, hj, jz0, jz1, jz2⟩ := info_parts info63
  have cC := fun w' h hE => check_any v d w' h hf hE
  rw [hc] at cC
  have HV := Lib.hid hV
  have HF : Hid (∀ i, i < d.evs.length → (d.evs.getD i default).rows.length ≤ 4 ∧ ∀ r ∈ (d.evs.getD i default).rows, rowFit r) := Lib.hid (fun i hi => by rw [getD_of hi]; exact ⟨hr4 _ (List.getElem_mem hi), (hf.evs _ (List.getElem_mem hi)).r⟩)
  have HRS := Lib.hid (redN_succ d.evs)
  have hredl := redL_len d.evs
  obtain ⟨vg, ve, vc, rfl, hG, hVe, hC⟩ := hV
  obtain ⟨ag, cg, rfl⟩ := RowR.len hG
  obtain ⟨a, c, rfl⟩ := hVe.len
  obtain ⟨ac, cc, rfl⟩ := RowR.len hC
  have HVE := Lib.hid hVe
  have hbx := ((below1 (.cells #[.string (ba d.title), .string (ba d.lang), .int .u8 (d.rate : Int), .bool d.drop, .int .i64 d.last, .slice ag d.regs.length cg, .slice a d.evs.length c, .slice ac d.cms.length cc] 27) (Nat.le_refl w.heap.size)).alloc (by simp) (.cells zer27 27))
  have h0 := heap_alloc2_old w (.cells #[.string (ba d.title), .string (ba d.lang), .int .u8 (d.rate : Int), .bool d.drop, .int .i64 d.last, .slice ag d.regs.length cg, .slice a d.evs.length c, .slice ac d.cms.length cc] 27) (.cells zer27 27)
  have h1 := heap_alloc2_new w (.cells #[.string (ba d.title), .string (ba d.lang), .int .u8 (d.rate : Int), .bool d.drop, .int .i64 d.last, .slice ag d.regs.length cg, .slice a d.evs.length c, .slice ac d.cms.length cc] 27) (.cells zer27 27)
  have HBX := Lib.hid hbx
  have H0 := Lib.hid h0
  have H1 := Lib.hid h1
  clear hVe hG hC hc hbx h0 h1 hr4 hf
  go_enter Tryz.func8, Tryz.ntmps8
  go_wp2_with fail
  refine (cC _ (HV.out.below HBX.out) (hE.below HBX.out)).mono ?_
  rintro e w1 ⟨rfl, hb1⟩
  have HB1 := Lib.hid (below_grow HBX.out (by simp; omega) hb1)
  have R0 := Lib.hid (blk_stay H0.out hb1)
  have R1 := Lib.hid (blk_stay H1.out hb1)
  have hl1 := heap_lt R1.out
  clear hb1 H0 H1 HBX cC HV
  obtain ⟨d0, d1, d2, d3, d4, d5, d6, d7, df, dl⟩ := blk8 R0.out
  have hR3 := heap_alloc_new w1 (.cells (outC d.rate d.drop d.evs.length (.slice none 0 0)) 27)
  obtain ⟨f0, f1, f2, f3, f4, f5, f6, f7, ff, fl⟩ := blk8 (blk_stay R0.out (below1 (.cells (outC d.rate d.drop d.evs.length (.slice none 0 0)) 27) (Nat.le_refl _)))
  have hsz1 := HB1.out.size
  go_wp2_with fail
  go_loopw [24] (fun v wx => ∃ (i : Nat) (vo : Value), v = .int .i64 i ∧ i ≤ d.evs.length ∧ Hid (wx.heap[w1.heap.size]? = some (.cells (outC d.rate d.drop d.evs.length vo) 27 (0, 0))) ∧ Hid (EvsO wx w.heap.size vo (redN d.evs i)) ∧ Hid (wx.heap[w.heap.size + 1]? = some (.cells zer27 27 (0, 0))) ∧ Hid (Below w.heap.size w wx) ∧ w1.heap.size < wx.heap.size) (fun v _ => d.evs.length - (intOf v).toNat)
  case atStart => exact ⟨0, .slice none 0 0, rfl, Nat.zero_le _, Lib.hid hR3, Lib.hid (EvsO.nil _ _), Lib.hid (blk_stay R1.out (below1 _ (Nat.le_refl _))), Lib.hid (HB1.out.alloc hsz1 _), by simp⟩
  case round =>
    clear hR3 R1 d0 d1 d2 d3 d4 d5 d6 d7 df dl f0 f1 f2 f3 f4 f5 f6 f7 ff fl
    obtain ⟨i, vo, rfl, hil, HR3, HEO, HR1, HB, hzl⟩ := hrel
    have hszr := HB.out.size
    by_cases hlt : i < d.evs.length
    · have hiz : (i : Int) < (d.evs.length : Int) := by omega
      have hVr := HVE.out.below HB.out
      obtain ⟨g, off, rfl, hg⟩ := hVr.addr (by omega)
      obtain ⟨v1, hRR, k0, k1, k2, k3, k4, k5, k6⟩ := hVr.at rfl i hlt
      obtain ⟨q1, q2⟩ := HF.out i hlt
      have hrs := HRS.out i
      clear hVr
      generalize d.evs.getD i default = X at *
      obtain ⟨y0, y1, y2, y3, y4, y5, y6⟩ := X
      dsimp only at *
      obtain ⟨a1, c1, rfl⟩ := hRR.len
      have HRR := Lib.hid hRR
      have HRS2 := Lib.hid hrs
      have HQ2 := Lib.hid q2
      clear hRR hrs q2
      obtain ⟨W0, rfl⟩ : ∃ W, W = wr := ⟨wr, rfl⟩
      have hX0 := heap_alloc2_new W0 (.cells #[.int .i64 y0, .int .i64 y1, .int .i64 y2, .string (ba y3), .int .u8 (y4 : Int), .string (ba y5), .slice a1 y6.length c1] 63) (.cells #[.int .i64 ((i : Int) + 1), .int .i64 y1, .int .i64 y2, .string ⟨#[]⟩, .int .u8 1, .string ⟨#[]⟩, .slice none 0 0] 63)
      have hb0 := (below1 (.cells #[.int .i64 y0, .int .i64 y1, .int .i64 y2, .string (ba y3), .int .u8 (y4 : Int), .string (ba y5), .slice a1 y6.length c1] 63) (Nat.le_refl W0.heap.size)).alloc (by simp) (.cells #[.int .i64 ((i : Int) + 1), .int .i64 y1, .int .i64 y2, .string ⟨#[]⟩, .int .u8 1, .string ⟨#[]⟩, .slice none 0 0] 63)
      have HX0 := Lib.hid hX0
      have HB0 := Lib.hid hb0
      have HTC := Lib.hid (take_car y6)
      clear hX0 hb0
      go_wp2_with fail
      clear k0 k1 k2 k3 k4 k5 k6
      go_loopw [37] (fun v wx => ∃ (k : Nat) (va : Value), v = .int .i64 k ∧ k ≤ y6.length ∧ Hid (wx.heap[W0.heap.size + 1]? = some (.cells #[.int .i64 ((i : Int) + 1), .int .i64 y1, .int .i64 y2, .string ⟨#[]⟩, .int .u8 1, .string ⟨#[]⟩, va] 63 (0, 0))) ∧ Hid (RowsO wx W0.heap.size va ((y6.map carR).take k)) ∧ Hid (Below W0.heap.size W0 wx)) (fun v _ => y6.length - (intOf v).toNat)
      case atStart => exact ⟨0, .slice none 0 0, rfl, Nat.zero_le _, HX0, Lib.hid ⟨[], World.ownsRow_nil _ _ _ _, fun i h => absurd h (by simp)⟩, HB0⟩
      case round =>
        clear HX0 HB0
        obtain ⟨k, va, rfl, hkl, HX, HR, HBk⟩ := hrel
        have hszk := HBk.out.size
        by_cases hlk : k < y6.length
        · have hkz : (k : Int) < (y6.length : Int) := by omega
          have hli : ((y6.map carR).take k).length = k := by rw [List.length_take, List.length_map]; omega
          obtain ⟨vs, how, hrr⟩ := HR.out
          rw [hli] at how
          obtain ⟨av, cv, rfl⟩ := own_len how
          have hRk := HRR.out.below HBk.out
          obtain ⟨g2, off2, rfl, hg2⟩ := hRk.addr (by omega)
          obtain ⟨u, hcu, hru⟩ := hRk.at rfl k hlk
          have hrf : rowFit (y6.getD k []) := by rw [getD_of hlk]; exact HQ2.out _ (List.getElem_mem hlk)
          have htc := HTC.out k hlk
          clear hRk
          generalize y6.getD k [] = X at *
          obtain ⟨au, cu, rfl⟩ := RowR.len hru
          have cC := fun w' h => carried_any (.slice au X.length cu) X w' h hrf.n hrf.t
          have HTC2 := Lib.hid htc
          clear htc
          go_upto_region 11 with fail
          refine world_as (fun W => W.heap[wr.heap.size]? = some (.cells #[.slice au X.length cu] 71 (0, 0)) ∧ Below wr.heap.size wr W) ⟨heap_alloc_new wr _, below1 _ (Nat.le_refl _)⟩ ?_
          rintro W ⟨hr8, hbw⟩
          have hX := blk_stay HX.out hbw
          have how' := own_stays how hbw
          have hrr' : ∀ i, i < ((y6.map carR).take k).length → ∃ u, vs[i]? = some u ∧ RunsO W u (((y6.map carR).take k).getD i []) := fun i hi => by obtain ⟨z, e, hz⟩ := hrr i hi; exact ⟨z, e, own_stays hz hbw⟩
          have hru' : RunsR W (.slice au X.length cu) X := hru.below hbw
          have hbW := below_grow HBk.out hszk hbw
          have hszW := hbW.size
          clear hrr how hru hbw HR HX HBk hcu
          obtain ⟨x0, x1, x2, x3, x4, x5, x6, xf, xl⟩ := blk7 hX
          obtain ⟨r0, rf, rl⟩ := blk1 hr8
          go_region_law (first
            | (refine step_append_row (by rfl) _ _ _ (by rfl) W0.heap.size 71 i0 _ 1 24 Tryz.underlying61 hi iz0 iz1 iz2 rfl (by decide) _ _ _ (by rfl) (how5.alloc _) _ 1 _ (by rfl) (lit_row _ _ _ (by simp) rfl) (one_lit rfl) (by unfold maxLen; omega) (by omega) (by simp; omega) ?_
               intro v6 w6 hown6 hgrow6 _
               obtain ⟨a6, c6, rfl⟩ := own_len hown6
               have hX6 := app_grow hX5 (below1 _ (Nat.le_refl _)) (how5.alloc _) (by decide) hgrow6
               obtain ⟨z0, z1, z2, z3, z4, z5, z6, zf, zl⟩ := blk7 hX6)
            | (go_simp
               go_at_call 23
               refine (cC _ (RowR.drew hru')).mono ?_
               rintro e w5 ⟨va5, rfl, ho5, hb5'⟩
               have hb5 : Below W.heap.size W w5 := ⟨hb5'.os, hb5'.tape, hb5'.output, hb5'.size, hb5'.block⟩
               obtain ⟨a5, c5, rfl⟩ := own_len ho5
               have hX5 := blk_stay hX hb5
               have how5 := own_stays how' hb5
               have hbr5 := below_grow hbW hszW hb5
               obtain ⟨y0', y1', y2', y3', y4', y5', y6', yf', yl'⟩ := blk7 hX5))
          all_goals
            have hP := RowsO.push (L := (y6.map carR).take k) (r := carR X) (by rw [hli]; exact how5.alloc _) (fun k hk => by obtain ⟨u, e, hu⟩ := hrr' k hk; exact ⟨u, e, (own_stays hu hb5).alloc _⟩) ((own_base ho5).alloc _) (by rw [hli]; exact hown6) hgrow6
            rw [← HTC2.out] at hP
            have HP := Lib.hid (hP.far (o := 6) (u := .slice a6 (k + 1) c6) hX6 (by decide) (by decide))
            have HX2 := Lib.hid (blk_set (o := 6) (u := .slice a6 (k + 1) c6) hX6)
            have HB6 := Lib.hid ((app_step (how5.alloc _) (hbr5.alloc (by have := hbr5.size; omega) _) (by have := hbr5.size; simp; omega) hgrow6).setCell (p := ⟨W0.heap.size + 1, 6, none⟩) (Nat.le_succ _) (.slice a6 (k + 1) c6))
            clear hP
            go_wp2_with fail
            go_roundw
            case rel => exact ⟨k + 1, _, by go_num, by omega, HX2, HP, HB6⟩
            case measure => simp [intOf]; omega
        · obtain rfl : k = y6.length := by omega
          have hkz : ¬ (y6.length : Int) < (y6.length : Int) := by omega
          have hX := HX.out
          obtain ⟨x0, x1, x2, x3, x4, x5, x6, xf, xl⟩ := blk7 hX
          have hR := HR.out
          rw [List.take_of_length_le (by simp)] at hR
          obtain ⟨av, cv, hav⟩ := hR.len
          rw [List.length_map] at hav
          subst hav
          have hR3 := blk_stay HR3.out HBk.out
          obtain ⟨f0, f1, f2, f3, f4, f5, f6, f7, ff, fl⟩ := blk8 hR3
          obtain ⟨p, hp, how, hpr⟩ := HEO.out.stays HBk.out
          rw [redN_len] at how
          obtain ⟨ao, co, rfl⟩ := own_len how
          have HRr := Lib.hid hR
          clear hR HR
          go_wp2_with (at_builtin; refine wpList_append_row rfl _ _ 24 rfl w.heap.size 63 j0 _ 7 88 Tryz.underlying24 hj jz0 jz1 jz2 rfl (by decide) _ _ _ rfl (how.alloc _) _ 1 _ rfl (lit_row _ _ _ rfl rfl) (one_lit rfl) ?c3 ?c4 ?c5 ?_)
          case c3 => unfold maxLen; omega
          case c4 => omega
          case c5 => first | omega | (simp; omega)
          intro v6 w6 hown6 hgrow6 _
          obtain ⟨a6, c6, rfl⟩ := own_len hown6
          have hbk := below_grow HB.out hszr HBk.out
          have hE6 := EvsO.push (L := redN d.evs i) (e := redE (i + 1) ⟨y0, y1, y2, y3, y4, y5, y6⟩) hp (by rw [redN_len]; exact how.alloc _) (fun x hx => (hpr x hx).stays (below1 _ (Nat.le_refl _))) ((HRr.out.low (Nat.zero_le _)).stays (below1 _ (Nat.le_refl _))) (by rw [redN_len]; exact hown6) hgrow6
          rw [← HRS2.out] at hE6
          have hR3' := app_grow hR3 (below1 _ (Nat.le_refl _)) (how.alloc _) (by decide) hgrow6
          have hR1' := app_grow (blk_stay HR1.out HBk.out) (below1 _ (Nat.le_refl _)) (how.alloc _) (by decide) hgrow6
          have hB6 := app_step (how.alloc _) (hbk.alloc (by omega) _) (by simp; omega) hgrow6
          have HE6 := Lib.hid (hE6.far (o := 6) (u := .slice a6 (i + 1) c6) hR3' (by decide) (by decide) (by decide))
          have HR3' := Lib.hid (blk_set (o := 6) (u := .slice a6 (i + 1) c6) hR3')
          have HR1' := Lib.hid (blk_other (o := 6) (c := w1.heap.size) (u := .slice a6 (i + 1) c6) hR1' (by omega))
          have HB6 := Lib.hid (hB6.setCell (p := ⟨w1.heap.size, 6, none⟩) hsz1 (.slice a6 (i + 1) c6))
          have hz6 : w1.heap.size < (w6.setCell ⟨w1.heap.size, 6, none⟩ (.slice a6 (i + 1) c6)).heap.size := heap_lt HR3'.out
          clear f0 f1 f2 f3 f4 f5 f6 f7 ff fl hE6 hB6 hgrow6 hown6 how x0 x1 x2 x3 x4 x5 x6 xf xl
          obtain ⟨f0, f1, f2, f3, f4, f5, f6, f7, ff, fl⟩ := blk8 hR3'
          go_wp2_with fail
          go_roundw
          case rel => exact ⟨i + 1, _, by go_num, by omega, HR3', HE6, HR1', HB6, hz6⟩
          case measure => simp [intOf]; omega
    · obtain rfl : i = d.evs.length := by omega
      have hiz : ¬ (d.evs.length : Int) < (d.evs.length : Int) := by omega
      have hred : redN d.evs d.evs.length = redL d.evs := rfl
      obtain ⟨ao, co, hao⟩ := HEO.out.len
      rw [redN_len] at hao
      subst hao
      obtain ⟨f0, f1, f2, f3, f4, f5, f6, f7, ff, fl⟩ := blk8 HR3.out
      obtain ⟨d0, d1, d2, d3, d4, d5, d6, d7, df, dl⟩ := blk8 HR1.out
      go_wp2_with fail
      exact bodyPost_ret (results_cell_row Tryz.results8 _ _ _ _ _ _ _ rfl (set8 HR1.out) Tryz.underlying27 rfl (by kernel_rfl)) rfl ⟨_, rfl, ⟨.slice none 0 0, .slice ao d.evs.length co, .slice none 0 0, rfl, ⟨rfl, Or.inl ⟨rfl, rfl⟩⟩, (HEO.out.far8 HR1.out (by decide) (by decide) (by decide)).toR, ⟨rfl, Or.inl ⟨rfl, rfl⟩⟩⟩, below8 HB.out (Nat.le_succ _)⟩
end Go.Proofs.YtgiaohccebolpaaGreatDoor
namespace Go.Proofs.YtgiaohccebolpaaGreatDoor
open Go Go.RowKit
open Go.Lib hiding intOf
set_option linter.unusedVariables false
attribute [local go_sem ↓] ne111_same eq59_same eq51_same ne59_same
/-! ### documents that are equal -/
set_option maxHeartbeats 4000000 in
set_option maxRecDepth 100000 in
theorem eqruns_any (v1 v2 : Value) (L : Rw) (w : World) (h1 : RunsR w v1 L) (h2 : RunsR w v2 L) (hn : L.length ≤ 1048576) :
    Calls Tryz.prog 105 #[v1, v2] w fun e w' => e = .returned (.bool true) ∧ Below w.heap.size w w' := by
  obtain ⟨a1, c1, rfl⟩ := RowR.len h1
  obtain ⟨a2, c2, rfl⟩ := RowR.len h2
  have H1 := Lib.hid h1
  have H2 := Lib.hid h2
  clear h1 h2
  go_enter Tryz.func105, Tryz.ntmps105
  go_wp2_with fail
  go_loopw [13] (fun v wx => ∃ i : Nat, v = .int .i64 i ∧ i ≤ L.length ∧ Hid (Below w.heap.size w wx)) (fun v _ => L.length - (intOf v).toNat)
  case atStart => exact ⟨0, rfl, Nat.zero_le _, Lib.hid (Below.refl _ _)⟩
  case round =>
    obtain ⟨i, rfl, hil, HB⟩ := hrel
    by_cases hlt : i < L.length
    · have hiz : (i : Int) < (L.length : Int) := by omega
      have g1 := H1.out.below HB.out
      have g2 := H2.out.below HB.out
      obtain ⟨b1, o1, rfl, _⟩ := g1.addr (by omega)
      obtain ⟨b2, o2, rfl, _⟩ := g2.addr (by omega)
      obtain ⟨x0, x1, x2, x3, x4⟩ := RunsR.at g1 rfl i hlt
      obtain ⟨y0, y1, y2, y3, y4⟩ := RunsR.at g2 rfl i hlt
      clear g1 g2
      generalize L.getD i default = X at *
      go_wp2_with fail
      go_quiet (fail)
      go_wp2_with fail
      go_roundw
      case rel => exact ⟨i + 1, by go_num, by omega, Lib.hid (below_drewN HB.out _)⟩
      case measure => simp [intOf]; omega
    · obtain rfl : i = L.length := by omega
      have hiz : ¬ (L.length : Int) < (L.length : Int) := by omega
      go_wp2_with fail
      go_ret
      exact ⟨rfl, HB.out⟩
set_option maxHeartbeats 4000000 in
set_option maxRecDepth 100000 in
theorem samerow_any (v1 v2 : Value) (L : Rw) (w : World) (h1 : RunsR w v1 L) (h2 : RunsR w v2 L) (hn : L.length ≤ 1048576) :
    Calls Tryz.prog 76 #[.agg #[v1], .agg #[v2]] w fun e w' => e = .returned (.bool true) ∧ Below w.heap.size w w' := by
  obtain ⟨a1, c1, rfl⟩ := RowR.len h1
  obtain ⟨a2, c2, rfl⟩ := RowR.len h2
  have c := fun w' h1 h2 => eqruns_any (.slice a1 L.length c1) (.slice a2 L.length c2) L w' h1 h2 hn
  have hb := (below1 (.cells #[.slice a1 L.length c1] 71) (Nat.le_refl w.heap.size)).alloc (by simp) (.cells #[.slice a2 L.length c2] 71)
  have H1 := Lib.hid (h1.below hb)
  have H2 := Lib.hid (h2.below hb)
  have HB := Lib.hid hb
  clear h1 h2 hb
  go_enter Tryz.func76, Tryz.ntmps76
  go_wp2_with fail
  refine (c _ H1.out H2.out).mono ?_
  rintro e w1 ⟨rfl, hb1⟩
  go_wp2_with fail
  go_ret
  exact ⟨rfl, below_grow HB.out (by simp; omega) hb1⟩
end Go.Proofs.YtgiaohccebolpaaGreatDoor
namespace Go.Proofs.YtgiaohccebolpaaGreatDoor
open Go Go.RowKit
open Go.Lib hiding intOf
set_option linter.unusedVariables false
attribute [local go_sem ↓] ne111_same eq59_same eq51_same ne59_same
set_option maxHeartbeats 4000000 in
set_option maxRecDepth 100000 in
theorem eqrows_any (v1 v2 : Value) (L : List Rw) (w : World) (h1 : RowsR w v1 L) (h2 : RowsR w v2 L) (hn : L.length ≤ 1048576) (hf : ∀ r ∈ L, r.length ≤ 1048576) :
    Calls Tryz.prog 75 #[v1, v2, .func (.func 76) #[] #[]] w fun e w' => e = .returned (.bool true) ∧ Below w.heap.size w w' := by
  obtain ⟨a1, c1, rfl⟩ := h1.len
  obtain ⟨a2, c2, rfl⟩ := h2.len
  have H1 := Lib.hid h1
  have H2 := Lib.hid h2
  have HF := Lib.hid hf
  clear h1 h2 hf
  go_enter Tryz.func75, Tryz.ntmps75
  go_wp2_with fail
  go_loopw [17] (fun v wx => ∃ i : Nat, v = .int .i64 i ∧ i ≤ L.length ∧ Hid (Below w.heap.size w wx)) (fun v _ => L.length - (intOf v).toNat)
  case atStart => exact ⟨0, rfl, Nat.zero_le _, Lib.hid (Below.refl _ _)⟩
  case round =>
    obtain ⟨i, rfl, hil, HB⟩ := hrel
    have hsz := HB.out.size
    by_cases hlt : i < L.length
    · have hiz : (i : Int) < (L.length : Int) := by omega
      have g1 := H1.out.below HB.out
      have g2 := H2.out.below HB.out
      obtain ⟨b1, o1, rfl, hl1⟩ := g1.addr (by omega)
      obtain ⟨b2, o2, rfl, hl2⟩ := g2.addr (by omega)
      obtain ⟨u1, x1, r1⟩ := g1.at rfl i hlt
      obtain ⟨u2, x2, r2⟩ := g2.at rfl i hlt
      have hrl : (L.getD i []).length ≤ 1048576 := by rw [getD_of hlt]; exact HF.out _ (List.getElem_mem hlt)
      clear g1 g2
      generalize L.getD i [] = X at *
      obtain ⟨a3, c3, rfl⟩ := RowR.len r1
      obtain ⟨a4, c4, rfl⟩ := RowR.len r2
      have hb := (below1 (.cells #[.slice a3 X.length c3] 71) (Nat.le_refl wr.heap.size)).alloc (by simp) (.cells #[.slice a4 X.length c4] 71)
      have R1 := Lib.hid (r1.below hb)
      have R2 := Lib.hid (r2.below hb)
      have HB2 := Lib.hid (below_grow HB.out hsz hb)
      have hsz2 := HB2.out.size
      have c := fun w' h1 h2 => samerow_any (.slice a3 X.length c3) (.slice a4 X.length c4) X w' h1 h2 hrl
      clear r1 r2 hb
      go_wp2_with fail
      refine (c _ R1.out R2.out).mono ?_
      rintro e w1 ⟨rfl, hb1⟩
      have HB3 := Lib.hid (below_grow HB2.out hsz2 hb1)
      clear hb1
      go_wp2_with fail
      go_roundw
      case rel => exact ⟨i + 1, by go_num, by omega, HB3⟩
      case measure => simp [intOf]; omega
    · obtain rfl : i = L.length := by omega
      have hiz : ¬ (L.length : Int) < (L.length : Int) := by omega
      go_wp2_with fail
      go_ret
      exact ⟨rfl, HB.out⟩
set_option maxHeartbeats 4000000 in
set_option maxRecDepth 100000 in
theorem samerows_any (v1 v2 : Value) (L : List Rw) (w : World) (h1 : RowsR w v1 L) (h2 : RowsR w v2 L) (hn : L.length ≤ 1048576) (hf : ∀ r ∈ L, r.length ≤ 1048576) :
    Calls Tryz.prog 43 #[v1, v2] w fun e w' => e = .returned (.bool true) ∧ Below w.heap.size w w' := by
  obtain ⟨a1, c1, rfl⟩ := h1.len
  obtain ⟨a2, c2, rfl⟩ := h2.len
  have c := eqrows_any (.slice a1 L.length c1) (.slice a2 L.length c2) L w h1 h2 hn hf
  clear h1 h2 hf
  go_enter Tryz.func43, Tryz.ntmps43
  go_wp2_with fail
  refine c.mono ?_
  rintro e w1 ⟨rfl, hb1⟩
  go_wp2_with fail
  go_ret
  exact ⟨rfl, hb1⟩
set_option maxHeartbeats 4000000 in
set_option maxRecDepth 100000 in
theorem esame_any (id inn out : Int) (reg spk : ByteArray) (kind : Int) (v1 v2 : Value) (L : List Rw) (w : World) (h1 : RowsR w v1 L) (h2 : RowsR w v2 L) (hn : L.length ≤ 1048576) (hf : ∀ r ∈ L, r.length ≤ 1048576) :
    Calls Tryz.prog 20 #[evV id inn out reg kind spk v1, evV id inn out reg kind spk v2] w fun e w' => e = .returned (.bool true) ∧ Below w.heap.size w w' := by
  obtain ⟨a1, c1, rfl⟩ := h1.len
  obtain ⟨a2, c2, rfl⟩ := h2.len
  have c := fun w' h1 h2 => samerows_any (.slice a1 L.length c1) (.slice a2 L.length c2) L w' h1 h2 hn hf
  have hb := (below1 (.cells #[.int .i64 id, .int .i64 inn, .int .i64 out, .string reg, .int .u8 kind, .string spk, .slice a1 L.length c1] 63) (Nat.le_refl w.heap.size)).alloc (by simp) (.cells #[.int .i64 id, .int .i64 inn, .int .i64 out, .string reg, .int .u8 kind, .string spk, .slice a2 L.length c2] 63)
  have H1 := Lib.hid (h1.below hb)
  have H2 := Lib.hid (h2.below hb)
  have HB := Lib.hid hb
  clear h1 h2 hb hf
  go_enter Tryz.func20, Tryz.ntmps20
  go_wp2_with fail
  refine (c _ H1.out H2.out).mono ?_
  rintro e w1 ⟨rfl, hb1⟩
  go_wp2_with fail
  go_ret
  exact ⟨rfl, below_grow HB.out (by simp; omega) hb1⟩
end Go.Proofs.YtgiaohccebolpaaGreatDoor
namespace Go.Proofs.YtgiaohccebolpaaGreatDoor
open Go Go.RowKit
open Go.Lib hiding intOf
set_option linter.unusedVariables false
attribute [local go_sem ↓] ne111_same eq59_same eq51_same ne59_same
set_option maxHeartbeats 4000000 in
set_option maxRecDepth 100000 in
theorem eqevs_any (v1 v2 : Value) (L : List Ev) (w : World) (h1 : EvsR w v1 L) (h2 : EvsR w v2 L) (hn : L.length ≤ 1048576) (hf : evsFit L) :
    Calls Tryz.prog 19 #[v1, v2, .func (.func 20) #[] #[]] w fun e w' => e = .returned (.bool true) ∧ Below w.heap.size w w' := by
  obtain ⟨a1, c1, rfl⟩ := h1.len
  obtain ⟨a2, c2, rfl⟩ := h2.len
  have H1 := Lib.hid h1
  have H2 := Lib.hid h2
  have HF := Lib.hid hf
  clear h1 h2 hf
  go_enter Tryz.func19, Tryz.ntmps19
  go_wp2_with fail
  go_loopw [17] (fun v wx => ∃ i : Nat, v = .int .i64 i ∧ i ≤ L.length ∧ Hid (Below w.heap.size w wx)) (fun v _ => L.length - (intOf v).toNat)
  case atStart => exact ⟨0, rfl, Nat.zero_le _, Lib.hid (Below.refl _ _)⟩
  case round =>
    obtain ⟨i, rfl, hil, HB⟩ := hrel
    have hsz := HB.out.size
    by_cases hlt : i < L.length
    · have hiz : (i : Int) < (L.length : Int) := by omega
      have g1 := H1.out.below HB.out
      have g2 := H2.out.below HB.out
      obtain ⟨b1, o1, rfl, hl1⟩ := g1.addr (by omega)
      obtain ⟨b2, o2, rfl, hl2⟩ := g2.addr (by omega)
      obtain ⟨u1, r1, x0, x1, x2, x3, x4, x5, x6⟩ := g1.at rfl i hlt
      obtain ⟨u2, r2, y0, y1, y2, y3, y4, y5, y6⟩ := g2.at rfl i hlt
      have hrl : (L.getD i default).rows.length ≤ 1048576 ∧ ∀ r ∈ (L.getD i default).rows, r.length ≤ 1048576 := by
        have := HF.out _ (List.getElem_mem hlt)
        rw [getD_of hlt]; exact ⟨by omega, this.2⟩
      clear g1 g2
      generalize L.getD i default = X at *
      obtain ⟨z0, z1, z2, z3, z4, z5, z6⟩ := X
      dsimp only at *
      obtain ⟨a3, c3, rfl⟩ := r1.len
      obtain ⟨a4, c4, rfl⟩ := r2.len
      have hb := (below1 (.cells #[.int .i64 z0, .int .i64 z1, .int .i64 z2, .string (ba z3), .int .u8 (z4 : Int), .string (ba z5), .slice a3 z6.length c3] 63) (Nat.le_refl wr.heap.size)).alloc (by simp) (.cells #[.int .i64 z0, .int .i64 z1, .int .i64 z2, .string (ba z3), .int .u8 (z4 : Int), .string (ba z5), .slice a4 z6.length c4] 63)
      have R1 := Lib.hid (r1.below hb)
      have R2 := Lib.hid (r2.below hb)
      have HB2 := Lib.hid (below_grow HB.out hsz hb)
      have hsz2 := HB2.out.size
      have c := fun w' h1 h2 => esame_any z0 z1 z2 (ba z3) (ba z5) (z4 : Int) (.slice a3 z6.length c3) (.slice a4 z6.length c4) z6 w' h1 h2 hrl.1 hrl.2
      clear r1 r2 hb hrl
      go_wp2_with fail
      refine (c _ R1.out R2.out).mono ?_
      rintro e w1 ⟨rfl, hb1⟩
      have HB3 := Lib.hid (below_grow HB2.out hsz2 hb1)
      clear hb1
      go_wp2_with fail
      go_roundw
      case rel => exact ⟨i + 1, by go_num, by omega, HB3⟩
      case measure => simp [intOf]; omega
    · obtain rfl : i = L.length := by omega
      have hiz : ¬ (L.length : Int) < (L.length : Int) := by omega
      go_wp2_with fail
      go_ret
      exact ⟨rfl, HB.out⟩
set_option maxHeartbeats 4000000 in
set_option maxRecDepth 100000 in
theorem eqregs_nil (a1 a2 : Option Addr) (c1 c2 : Nat) (w : World) : Calls Tryz.prog 18 #[.slice a1 0 c1, .slice a2 0 c2] w fun e w' => e = .returned (.bool true) ∧ w' = w := by
  go_enter Tryz.func18, Tryz.ntmps18
  go_wp2_with fail
  go_loopw [13] (fun v wx => v = .int .i64 0 ∧ wx = w) (fun _ _ => 0)
  case atStart => exact ⟨rfl, rfl⟩
  case round =>
    obtain ⟨rfl, rfl⟩ := hrel
    go_wp2_with fail
    go_ret
    exact ⟨rfl, rfl⟩
set_option maxHeartbeats 4000000 in
set_option maxRecDepth 100000 in
theorem eqcms_nil (a1 a2 : Option Addr) (c1 c2 : Nat) (w : World) : Calls Tryz.prog 21 #[.slice a1 0 c1, .slice a2 0 c2] w fun e w' => e = .returned (.bool true) ∧ w' = w := by
  go_enter Tryz.func21, Tryz.ntmps21
  go_wp2_with fail
  go_loopw [13] (fun v wx => v = .int .i64 0 ∧ wx = w) (fun _ _ => 0)
  case atStart => exact ⟨rfl, rfl⟩
  case round =>
    obtain ⟨rfl, rfl⟩ := hrel
    go_wp2_with fail
    go_ret
    exact ⟨rfl, rfl⟩
set_option maxHeartbeats 4000000 in
set_option maxRecDepth 100000 in
theorem head_any (t l : ByteArray) (r : Int) (dr : Bool) (last : Int) (ag ae ac : Option Addr) (ng ne nc cg ce cc : Nat) (w : World) :
    Calls Tryz.prog 17 #[dcV t l r dr last (.slice ag ng cg) (.slice ae ne ce) (.slice ac nc cc)] w fun e w' => e = .returned (.agg #[.string t, .string l, .int .u8 r, .bool dr, .int .i64 last]) ∧ Below w.heap.size w w' := by
  go_enter Tryz.func17, Tryz.ntmps17
  go_wp2_with fail
  exact bodyPost_ret (results_cell_row Tryz.results17 _ _ _ _ _ _ _ rfl (heap_alloc2_new w _ _) Tryz.underlying51 rfl (by kernel_rfl)) rfl ⟨rfl, (below1 _ (Nat.le_refl _)).alloc (by simp) _⟩
end Go.Proofs.YtgiaohccebolpaaGreatDoor
