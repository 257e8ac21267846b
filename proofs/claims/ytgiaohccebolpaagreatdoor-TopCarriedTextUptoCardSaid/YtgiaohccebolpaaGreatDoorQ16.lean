import Derived.Test.YtgiaohccebolpaaGreatDoorQ15
import Derived.Test.YtgiaohccebolpaaGreatDoorQ13
import Derived.BigQuiet
namespace Go.Proofs.YtgiaohccebolpaaGreatDoor
open Go Go.RowKit
open Go.Lib hiding intOf
set_option linter.unusedVariables false
/-! ### subrip.ParseMarkup -/
/-- What the closure turns leaves all other blocks of other types alone. -/
def KeepB (b1 b2 b3 : Nat) (w w' : World) : Prop := ∀ k cs T, w.heap[k]? = some (.cells cs T (0, 0)) → T ≠ 111 → k ≠ b1 → k ≠ b2 → k ≠ b3 → w'.heap[k]? = some (.cells cs T (0, 0))
set_option maxHeartbeats 4000000 in
set_option maxRecDepth 100000 in
theorem turn_any (B b1 b2 b3 : Nat) (out : Rw) (va : Value) (t : List UInt8) (i u i' u' : Bool) (w : World) (h1 : w.heap[b1]? = some (.cells #[va] 71 (0, 0))) (h2 : w.heap[b2]? = some (.cells #[.int .u8 0, .bool i, .bool u] 109 (0, 0))) (h3 : w.heap[b3]? = some (.cells #[.string (ba t)] 9 (0, 0)))
    (hown : w.ownsRow B 111 5 va out.length (encL Rn.cells out)) (hn : out.length ≤ 1048576) (hb1 : B ≤ b1) (hb2 : B ≤ b2) (hb3 : B ≤ b3) (hBw : B ≤ w.heap.size) :
    Calls Tryz.prog 63 #[.agg #[.int .u8 0, .bool i', .bool u'], ptr b1, ptr b3, ptr b2] w fun e w' => e = .returned (.tuple #[]) ∧ ∃ va', w'.heap[b1]? = some (.cells #[va'] 71 (0, 0)) ∧ w'.heap[b2]? = some (.cells #[.int .u8 0, .bool i', .bool u'] 109 (0, 0)) ∧ w'.heap[b3]? = some (.cells #[.string ⟨#[]⟩] 9 (0, 0)) ∧
      w'.ownsRow B 111 5 va' (out ++ [rnS t i u]).length (encL Rn.cells (out ++ [rnS t i u])) ∧ Below B w w' ∧ KeepB b1 b2 b3 w w' := by
  obtain ⟨i0, hi, iz0, iz1, iz2⟩ := info_parts info111
  obtain ⟨a, c, rfl⟩ := own_len hown
  have hl1 := heap_lt h1
  have hl2 := heap_lt h2
  have hl3 := heap_lt h3
  have hbx := below1 (B := w.heap.size) (w := w) (.cells #[.int .u8 0, .bool i', .bool u'] 109) (Nat.le_refl _)
  have g1 := blk_stay h1 hbx
  have g2 := blk_stay h2 hbx
  have g3 := blk_stay h3 hbx
  have gow := own_stays hown hbx
  obtain ⟨o1, of1, ol1⟩ := blk1 g1
  obtain ⟨p0, p1, p2, pf, pl⟩ := blk3 g2
  obtain ⟨q1, qf, ql⟩ := blk1 g3
  have of1 := of1 0
  go_enter Tryz.func63, Tryz.ntmps63
  go_wp2_with (at_builtin; refine wpList_append_row rfl _ _ 69 rfl B 111 i0 _ 5 40 Tryz.underlying69 hi iz0 iz1 iz2 rfl (by decide) _ _ _ rfl (gow.alloc _) _ 1 _ rfl (lit_row _ _ _ (by simp) rfl) (one_lit rfl) ?c3 ?c4 ?c5 ?_)
  case c3 => unfold maxLen; omega
  case c4 => omega
  case c5 => simp; omega
  intro v' w2 hown' hgrow hblk
  obtain ⟨av', cv', rfl⟩ := own_len hown'
  have hown2 : w2.ownsRow B 111 5 (.slice av' (out.length + 1) cv') (out ++ [rnS t i u]).length (encL Rn.cells (out ++ [rnS t i u])) := by rw [List.length_append, encL_snoc]; exact hown'
  have R1 := Lib.hid (app_grow g1 (below1 _ (Nat.le_refl _)) (gow.alloc _) (by decide) hgrow)
  have R2 := Lib.hid (app_grow g2 (below1 _ (Nat.le_refl _)) (gow.alloc _) (by decide) hgrow)
  have R3 := Lib.hid (app_grow g3 (below1 _ (Nat.le_refl _)) (gow.alloc _) (by decide) hgrow)
  have R0 := Lib.hid (app_grow (heap_alloc_new w _) (below1 _ (Nat.le_refl _)) (gow.alloc _) (by decide) hgrow)
  have HK : Hid (∀ (k : Nat) (cs : Array Value) (T : TypeId), w.heap[k]? = some (.cells cs T (0, 0)) → T ≠ 111 → w2.heap[k]? = some (.cells cs T (0, 0))) := Lib.hid (fun k cs T hk hT => app_grow (blk_stay hk hbx) (below1 _ (Nat.le_refl _)) (gow.alloc _) hT hgrow)
  have HB := Lib.hid (app_step (gow.alloc _) ((hbx.mono hBw).alloc (by simp; omega) _) (by simp; omega) hgrow)
  have HO := Lib.hid hown2
  clear hown' hown2 hgrow hblk o1 of1 ol1 p0 p1 p2 pf pl q1 qf ql h1 h2 h3 hown hbx g1 g2 g3 gow
  obtain ⟨o1, of1, ol1⟩ := blk1 R1.out
  obtain ⟨p0, p1, p2, pf, pl⟩ := blk3 R2.out
  obtain ⟨q1, qf, ql⟩ := blk1 R3.out
  obtain ⟨z0, z1, z2, zf, zl⟩ := blk3 R0.out
  have of1 := of1 0
  have qf := qf 0
  go_wp2_with fail
  have ne21 : b2 ≠ b1 := nm_ne (B := 0) R2.out R1.out (by decide)
  have ne31 : b3 ≠ b1 := nm_ne (B := 0) R3.out R1.out (by decide)
  have ne32 : b3 ≠ b2 := nm_ne (B := 0) R3.out R2.out (by decide)
  have ne01 : w.heap.size ≠ b1 := nm_ne (B := 0) R0.out R1.out (by decide)
  refine world_as (fun W => W.heap[b1]? = some (.cells #[.slice av' (out.length + 1) cv'] 71 (0, 0)) ∧ W.heap[b2]? = some (.cells #[.int .u8 0, .bool i, .bool u] 109 (0, 0)) ∧ W.heap[b3]? = some (.cells #[.string (ba t)] 9 (0, 0)) ∧ W.heap[w.heap.size]? = some (.cells #[.int .u8 0, .bool i', .bool u'] 109 (0, 0)) ∧ W.ownsRow B 111 5 (.slice av' (out.length + 1) cv') (out ++ [rnS t i u]).length (encL Rn.cells (out ++ [rnS t i u])) ∧ Below B w W ∧ ∀ (k : Nat) (cs : Array Value) (T : TypeId), w.heap[k]? = some (.cells cs T (0, 0)) → T ≠ 111 → k ≠ b1 → W.heap[k]? = some (.cells cs T (0, 0)))
    ⟨blk_set R1.out, blk_other R2.out ne21, blk_other R3.out ne31, blk_other R0.out ne01, row_far (by decide) R1.out HO.out, HB.out.setCell hb1 _, fun k cs T hk hT hne => blk_other (HK.out k cs T hk hT) hne⟩ ?_
  rintro W ⟨R1', R2', R3', R0', HO', HB', HK'⟩
  clear o1 of1 ol1 p0 p1 p2 pf pl q1 qf ql z0 z1 z2 zf zl R1 R2 R3 R0 HK HB HO
  obtain ⟨p0, p1, p2, pf, pl⟩ := blk3 R2'
  obtain ⟨q1, qf, ql⟩ := blk1 R3'
  obtain ⟨z0, z1, z2, zf, zl⟩ := blk3 R0'
  have R1 := Lib.hid R1'
  have R2 := Lib.hid R2'
  have R3 := Lib.hid R3'
  have HO := Lib.hid HO'
  have HB := Lib.hid HB'
  have HK := Lib.hid HK'
  clear R1' R2' R3' R0' HO' HB' HK'
  have m03 : w.heap.size ≠ b3 := by omega
  have m30 : b3 ≠ w.heap.size := by omega
  have m02 : w.heap.size ≠ b2 := by omega
  have m20 : b2 ≠ w.heap.size := by omega
  have m32 : b3 ≠ b2 := ne32
  have m23 : b2 ≠ b3 := Ne.symm ne32
  go_region
  have hW3 := blk_set (o := 0) (u := .string ⟨#[]⟩) R3.out
  have hW2 := blk_other (o := 0) (c := b3) (u := .string ⟨#[]⟩) R2.out m23
  have hW2a := blk_set (o := 0) (u := .int .u8 0) hW2
  have hX1 : ∀ (k : Nat) (cs : Array Value) (T : TypeId), W.heap[k]? = some (.cells cs T (0, 0)) → k ≠ b2 → k ≠ b3 → ((((W.setCell ⟨b3, 0, none⟩ (.string ⟨#[]⟩)).setCell ⟨b2, 0, none⟩ (.int .u8 0)).setCell ⟨b2, 1, none⟩ (.bool i')).setCell ⟨b2, 2, none⟩ (.bool u')).heap[k]? = some (.cells cs T (0, 0)) :=
    fun k cs T hk h2 h3 => blk_other (blk_other (blk_other (blk_other hk h3) h2) h2) h2
  have hO1 := row_far (u := .string ⟨#[]⟩) (o := 0) (by decide) R3.out HO.out
  have hO2 := row_far (u := .int .u8 0) (o := 0) (by decide) hW2 hO1
  have hO3 := row_far (u := .bool i') (o := 1) (by decide) hW2a hO2
  have hO4 := row_far (u := .bool u') (o := 2) (by decide) (blk_set (o := 1) (u := .bool i') hW2a) hO3
  have hBl : Below B w ((((W.setCell ⟨b3, 0, none⟩ (.string ⟨#[]⟩)).setCell ⟨b2, 0, none⟩ (.int .u8 0)).setCell ⟨b2, 1, none⟩ (.bool i')).setCell ⟨b2, 2, none⟩ (.bool u')) := (((HB.out.setCell hb3 _).setCell hb2 _).setCell hb2 _).setCell hb2 _
  go_end0
  exact ⟨rfl, _, hX1 _ _ _ R1.out (Ne.symm ne21) (Ne.symm ne31), set3 hW2, blk_other (blk_other (blk_other hW3 m32) m32) m32, hO4, hBl.drew, fun k cs T hk hT h1 h2 h3 => hX1 k cs T (HK.out k cs T hk hT h1) h2 h3⟩
end Go.Proofs.YtgiaohccebolpaaGreatDoor
namespace Go.Proofs.YtgiaohccebolpaaGreatDoor
open Go Go.RowKit
open Go.Lib hiding intOf
set_option linter.unusedVariables false
/-! ### numbers and clocks, read -/
def fvF (n : Nat) : List UInt8 → Nat
  | [] => n
  | b :: t => fvF (10 * n + (b.toNat - 48)) t
def fv (l : List UInt8) : Nat := fvF 0 l
def digs (l : List UInt8) : Prop := ∀ b ∈ l, 48 ≤ b.toNat ∧ b.toNat ≤ 57
theorem fvF_drop (l : List UInt8) (i : Nat) (h : i < l.length) (n : Nat) : fvF n (l.drop i) = fvF (10 * n + ((l.getD i 0).toNat - 48)) (l.drop (i + 1)) := by
  rw [List.drop_eq_getElem_cons h, getD_of h]; rfl
theorem pow_le9 {i : Nat} (h : i ≤ 9) : 10 ^ i ≤ 1000000000 := Nat.pow_le_pow_right (by decide) h
theorem pow_more {n i y : Nat} (h : n < 10 ^ i) (h2 : y ≤ 9) : 10 * n + y < 10 ^ (i + 1) := by rw [Nat.pow_succ]; omega
set_option maxHeartbeats 4000000 in
set_option maxRecDepth 100000 in
theorem field_any (l : List UInt8) (hd : digs l) (h9 : l.length ≤ 9) (w : World) :
    Calls Tryz.prog 60 #[.string (ba l)] w fun e w' => e = .returned (.int .i64 ((fv l : Nat) : Int)) ∧ w' = w := by
  have hidx := idx_str (ba l)
  rw [ba_data] at hidx
  have hsz := ba_size l
  generalize ba l = s at *
  obtain ⟨Z, hZ⟩ : ∃ Z, fvF 0 (l.drop 0) = Z := ⟨_, rfl⟩
  have hfv : fv l = Z := by rw [← hZ, List.drop_zero]; rfl
  rw [hfv]
  have hdg : ∀ i, i < l.length → 48 ≤ (l.getD i 0).toNat ∧ (l.getD i 0).toNat ≤ 57 := fun i hi => by rw [getD_of hi]; exact hd _ (List.getElem_mem hi)
  have HZ := Lib.hid hZ
  have HI := Lib.hid hidx
  have HD := Lib.hid (fvF_drop l)
  have HG := Lib.hid hdg
  clear hd hZ hidx hfv hdg
  go_enter Tryz.func60, Tryz.ntmps60
  go_wp2_with fail
  go_loop [7, 3] (fun v u => ∃ i n : Nat, v = .int .i64 i ∧ u = .int .i64 n ∧ i ≤ l.length ∧ Hid (fvF n (l.drop i) = Z) ∧ Hid (n < 10 ^ i)) (fun v _ => l.length - (intOf v).toNat)
  case atStart => exact ⟨0, 0, rfl, rfl, Nat.zero_le _, HZ, Lib.hid (by decide)⟩
  case round =>
    clear HZ
    obtain ⟨i, n, rfl, rfl, hi, HZ, HP⟩ := hrel
    by_cases hlt : i < l.length
    · have hz : (i : Int) < (s.size : Int) := by omega
      have hix := HI.out i (by omega)
      have hq := HZ.out
      rw [HD.out i hlt] at hq
      obtain ⟨g1, g2⟩ := HG.out i hlt
      have hn := HP.out
      have hn9 : n ≤ 1000000000 := by have := pow_le9 (i := i) (by omega); omega
      clear HZ HI HG
      generalize (l.getD i 0).toNat = y at *
      have HQ := Lib.hid hq
      have HP2 := Lib.hid (pow_more (y := y - 48) hn (by omega))
      have hz1 : ¬ (y : Int) < 48 := by omega
      have hz2 : ¬ (57 : Int) < (y : Int) := by omega
      clear hq hn HP
      go_wp2_with fail
      go_round
      case rel => exact ⟨i + 1, 10 * n + (y - 48), by go_num, by go_num, by omega, HQ, HP2⟩
      case measure => simp [intOf]; omega
    · obtain rfl : i = l.length := by omega
      have hq := HZ.out
      rw [List.drop_eq_nil_of_le (by omega)] at hq
      have hq2 : n = Z := hq
      have hz : ¬ (l.length : Int) < (s.size : Int) := by omega
      clear HZ HI HG hq
      go_wp2_with fail
      go_ret
      exact ⟨rfl, rfl⟩
theorem ext_ba (l : List UInt8) (a b : Nat) : (ba l).extract a b = ba ((l.take b).drop a) := by
  apply ByteArray.ext
  rw [ByteArray.data_extract]
  apply Array.ext'
  simp [ba, List.extract_eq_take_drop, List.drop_take]
theorem d_nat {k : Nat} (h : k < 10) : (UInt8.ofNat (48 + k)).toNat = 48 + k := by
  rw [UInt8.toNat_ofNat']; omega
theorem digs_d2 {v : Nat} (h : v < 100) : digs (d2 v) ∧ fv (d2 v) = v := by
  have h1 := d_nat (k := v / 10) (by omega)
  have h2 := d_nat (k := v % 10) (by omega)
  constructor
  · intro b hb
    simp only [d2, List.mem_cons, List.not_mem_nil, or_false] at hb
    rcases hb with rfl | rfl
    · rw [h1]; omega
    · rw [h2]; omega
  · show 10 * (10 * 0 + ((UInt8.ofNat (48 + v / 10)).toNat - 48)) + ((UInt8.ofNat (48 + v % 10)).toNat - 48) = v
    rw [h1, h2]; omega
theorem digs_d3 {v : Nat} (h : v < 1000) : digs (d3 v) ∧ fv (d3 v) = v := by
  have h1 := d_nat (k := v / 100) (by omega)
  have h2 := d_nat (k := v / 10 % 10) (by omega)
  have h3 := d_nat (k := v % 10) (by omega)
  constructor
  · intro b hb
    simp only [d3, List.mem_cons, List.not_mem_nil, or_false] at hb
    rcases hb with rfl | rfl | rfl
    · rw [h1]; omega
    · rw [h2]; omega
    · rw [h3]; omega
  · show 10 * (10 * (10 * 0 + ((UInt8.ofNat (48 + v / 100)).toNat - 48)) + ((UInt8.ofNat (48 + v / 10 % 10)).toNat - 48)) + ((UInt8.ofNat (48 + v % 10)).toNat - 48) = v
    rw [h1, h2, h3]; omega
def FV (A : ByteArray) : Int := ((fv A.data.toList : Nat) : Int)
def Dig (A : ByteArray) : Prop := digs A.data.toList ∧ A.data.toList.length ≤ 9
theorem field_fv (A : ByteArray) (h : Dig A) (w : World) : Calls Tryz.prog 60 #[.string A] w fun e w' => e = .returned (.int .i64 (FV A)) ∧ w' = w := by
  have c := field_any A.data.toList h.1 h.2 w
  rw [ba_of] at c; exact c
theorem clk_parts (m : Nat) : ((clk m).take 2).drop 0 = d2 (m / 1000 / 3600) ∧ ((clk m).take 5).drop 3 = d2 (m / 1000 / 60 % 60) ∧ ((clk m).take 8).drop 6 = d2 (m / 1000 % 60) ∧ ((clk m).take 12).drop 9 = d3 (m % 1000) := ⟨rfl, rfl, rfl, rfl⟩
set_option maxHeartbeats 4000000 in
set_option maxRecDepth 100000 in
theorem pclock_any (m : Nat) (hm : m ≤ 359999999) (w : World) :
    Calls Tryz.prog 61 #[.string (ba (clk m))] w fun e w' => e = .returned (.tuple #[.int .i64 (m : Int), .int .i64 0]) ∧ Below w.heap.size w w' := by
  obtain ⟨e1, e2, e3, e4⟩ := clk_parts m
  have x1 := ext_ba (clk m) 0 2
  have x2 := ext_ba (clk m) 3 5
  have x3 := ext_ba (clk m) 6 8
  have x4 := ext_ba (clk m) 9 12
  rw [e1] at x1
  rw [e2] at x2
  rw [e3] at x3
  rw [e4] at x4
  obtain ⟨g1, f1⟩ := digs_d2 (v := m / 1000 / 3600) (by omega)
  obtain ⟨g2, f2⟩ := digs_d2 (v := m / 1000 / 60 % 60) (by omega)
  obtain ⟨g3, f3⟩ := digs_d2 (v := m / 1000 % 60) (by omega)
  obtain ⟨g4, f4⟩ := digs_d3 (v := m % 1000) (by omega)
  have hz : (ba (clk m)).size = 12 := by rw [ba_size]; rfl
  have i2 : ∀ w, (Instr.index 9 (.string (ba (clk m))) (.int .i64 2)).run Tryz.prog w = .ok (.int .u8 58) w := fun w => idx_str (ba (clk m)) 2 (by omega) w
  have i5 : ∀ w, (Instr.index 9 (.string (ba (clk m))) (.int .i64 5)).run Tryz.prog w = .ok (.int .u8 58) w := fun w => idx_str (ba (clk m)) 5 (by omega) w
  have i8 : ∀ w, (Instr.index 9 (.string (ba (clk m))) (.int .i64 8)).run Tryz.prog w = .ok (.int .u8 44) w := fun w => idx_str (ba (clk m)) 8 (by omega) w
  have hh : m / 1000 / 3600 < 100 := by omega
  have hmi : m / 1000 / 60 % 60 < 60 := by omega
  have hsc : m / 1000 % 60 < 60 := by omega
  have hms : m % 1000 < 1000 := by omega
  have hsum : ((m : Nat) : Int) = ((((m / 1000 / 3600 : Nat) : Int) * 60 + ((m / 1000 / 60 % 60 : Nat) : Int)) * 60 + ((m / 1000 % 60 : Nat) : Int)) * 1000 + ((m % 1000 : Nat) : Int) := by omega
  have z1 : FV ((ba (clk m)).extract 0 2) = ((m / 1000 / 3600 : Nat) : Int) := by rw [x1]; exact congrArg Int.ofNat f1
  have z2 : FV ((ba (clk m)).extract 3 5) = ((m / 1000 / 60 % 60 : Nat) : Int) := by rw [x2]; exact congrArg Int.ofNat f2
  have z3 : FV ((ba (clk m)).extract 6 8) = ((m / 1000 % 60 : Nat) : Int) := by rw [x3]; exact congrArg Int.ofNat f3
  have z4 : FV ((ba (clk m)).extract 9 12) = ((m % 1000 : Nat) : Int) := by rw [x4]; exact congrArg Int.ofNat f4
  have d1 : Dig ((ba (clk m)).extract 0 2) := by rw [x1]; exact ⟨g1, by show 2 ≤ 9; omega⟩
  have d2' : Dig ((ba (clk m)).extract 3 5) := by rw [x2]; exact ⟨g2, by show 2 ≤ 9; omega⟩
  have d3' : Dig ((ba (clk m)).extract 6 8) := by rw [x3]; exact ⟨g3, by show 2 ≤ 9; omega⟩
  have d4 : Dig ((ba (clk m)).extract 9 12) := by rw [x4]; exact ⟨g4, by show 3 ≤ 9; omega⟩
  clear e1 e2 e3 e4 x1 x2 x3 x4 g1 g2 g3 g4 f1 f2 f3 f4
  generalize ba (clk m) = s at *
  obtain ⟨A1, y1⟩ : ∃ A, s.extract 0 2 = A := ⟨_, rfl⟩
  obtain ⟨A2, y2⟩ : ∃ A, s.extract 3 5 = A := ⟨_, rfl⟩
  obtain ⟨A3, y3⟩ : ∃ A, s.extract 6 8 = A := ⟨_, rfl⟩
  obtain ⟨A4, y4⟩ : ∃ A, s.extract 9 12 = A := ⟨_, rfl⟩
  rw [y1] at z1 d1
  rw [y2] at z2 d2'
  rw [y3] at z3 d3'
  rw [y4] at z4 d4
  rw [← z1, ← z2, ← z3, ← z4] at hsum
  have k1 : 0 ≤ FV A1 ∧ FV A1 < 100 := by omega
  have k2 : 0 ≤ FV A2 ∧ FV A2 < 60 := by omega
  have k3 : 0 ≤ FV A3 ∧ FV A3 < 60 := by omega
  have k4 : 0 ≤ FV A4 ∧ FV A4 < 1000 := by omega
  clear z1 z2 z3 z4 hh hmi hsc hms
  obtain ⟨F1, q1⟩ : ∃ F, FV A1 = F := ⟨_, rfl⟩
  obtain ⟨F2, q2⟩ : ∃ F, FV A2 = F := ⟨_, rfl⟩
  obtain ⟨F3, q3⟩ : ∃ F, FV A3 = F := ⟨_, rfl⟩
  obtain ⟨F4, q4⟩ : ∃ F, FV A4 = F := ⟨_, rfl⟩
  rw [q1, q2, q3, q4] at hsum
  rw [q1] at k1
  rw [q2] at k2
  rw [q3] at k3
  rw [q4] at k4
  obtain ⟨k1, k1'⟩ := k1
  obtain ⟨k2, k2'⟩ := k2
  obtain ⟨k3, k3'⟩ := k3
  obtain ⟨k4, k4'⟩ := k4
  have n1 : ¬ F1 < 0 := by omega
  have n2 : ¬ F2 < 0 := by omega
  have n3 : ¬ 59 < F2 := by omega
  have n4 : ¬ F3 < 0 := by omega
  have n5 : ¬ 59 < F3 := by omega
  have n6 : ¬ F4 < 0 := by omega
  rw [hsum]
  clear hsum
  go_enter Tryz.func61, Tryz.ntmps61
  go_wp2_with fail
  go_quiet ((exact Calls.quiet_of_same (field_fv _ (by assumption) _)))
  go_wp2_with fail
  go_ret2
  exact ⟨rfl, below_drewN (Below.refl _ _) _⟩
def timL (a b : Nat) : List UInt8 := clk a ++ [32, 45, 45, 62, 32] ++ clk b
theorem tim_parts (a b : Nat) : ((timL a b).take 12).drop 0 = clk a ∧ ((timL a b).take 17).drop 12 = [32, 45, 45, 62, 32] ∧ ((timL a b).take 29).drop 17 = clk b := ⟨rfl, rfl, rfl⟩
set_option maxHeartbeats 4000000 in
set_option maxRecDepth 100000 in
theorem times_any (a b : Nat) (ha : a ≤ 359999999) (hb : b ≤ 359999999) (w : World) :
    Calls Tryz.prog 34 #[.string (ba (timL a b))] w fun e w' => e = .returned (.tuple #[.int .i64 (a : Int), .int .i64 (b : Int), .bool true]) ∧ Below w.heap.size w w' := by
  obtain ⟨e1, e2, e3⟩ := tim_parts a b
  have x1 := ext_ba (timL a b) 0 12
  have x2 := ext_ba (timL a b) 12 17
  have x3 := ext_ba (timL a b) 17 29
  rw [e1] at x1
  rw [e2] at x2
  rw [e3] at x3
  have c1 := fun w => pclock_any a ha w
  have c2 := fun w => pclock_any b hb w
  have hz : (ba (timL a b)).size = 29 := by rw [ba_size]; rfl
  generalize ba (timL a b) = s at *
  generalize ba (clk a) = A at *
  generalize ba (clk b) = B at *
  rw [show ba [32, 45, 45, 62, 32] = ⟨#[32, 45, 45, 62, 32]⟩ from rfl] at x2
  clear e1 e2 e3
  go_enter Tryz.func34, Tryz.ntmps34
  go_wp2_with fail
  refine (c1 _).mono ?_
  rintro e w1 ⟨rfl, hb1⟩
  go_wp2_with fail
  refine (c2 _).mono ?_
  rintro e w2 ⟨rfl, hb2⟩
  go_wp2_with fail
  go_ret3
  exact ⟨rfl, below_trans hb1 hb2⟩
set_option maxHeartbeats 4000000 in
set_option maxRecDepth 100000 in
theorem number_any (l : List UInt8) (hd : digs l) (h1 : 1 ≤ l.length) (h9 : l.length ≤ 9) (w : World) :
    Calls Tryz.prog 32 #[.string (ba l)] w fun e w' => e = .returned (.bool true) ∧ w' = w := by
  have c := fun w => field_any l hd h9 w
  have hz := ba_size l
  have k1 : (1 : Int) ≤ ((ba l).size : Int) := by omega
  have k2 : ((ba l).size : Int) ≤ 9 := by omega
  generalize ba l = s at *
  have k3 : (0 : Int) ≤ ((fv l : Nat) : Int) := by omega
  generalize ((fv l : Nat) : Int) = F at *
  go_enter Tryz.func32, Tryz.ntmps32
  go_wp2_with fail
  refine (c _).mono ?_
  rintro e w1 ⟨rfl, rfl⟩
  go_wp2_with fail
  go_ret
  exact ⟨rfl, rfl⟩
end Go.Proofs.YtgiaohccebolpaaGreatDoor
