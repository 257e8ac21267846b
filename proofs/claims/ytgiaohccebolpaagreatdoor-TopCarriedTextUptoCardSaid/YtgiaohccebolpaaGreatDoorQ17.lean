import Derived.Test.YtgiaohccebolpaaGreatDoorQ16
namespace Go.Proofs.YtgiaohccebolpaaGreatDoor
open Go Go.RowKit
open Go.Lib hiding intOf
set_option linter.unusedVariables false
theorem pre_len {s p : List UInt8} (h : Lib.hasPrefix s p = true) : p.length ≤ s.length := by
  unfold Lib.hasPrefix at h
  exact (List.isPrefixOf_iff_prefix.1 h).length_le
theorem tgS_len : ∀ k, k ≤ 6 → k ≠ 0 → (tgS k).length = tgW k := by decide
theorem best_len (s : List UInt8) : ∀ i, best s i ≠ 0 → tgW (best s i) ≤ s.length ∨ 6 < best s i
  | 0, h => absurd rfl h
  | i + 1, h => by
    rw [best_succ] at h ⊢
    by_cases hp : Lib.hasPrefix s (tgS (i + 1)) = true
    · rw [if_pos hp] at h ⊢
      rcases Nat.lt_or_ge 6 (i + 1) with h6 | h6
      · exact Or.inr h6
      · left; rw [← tgS_len (i + 1) h6 h]; exact pre_len hp
    · rw [if_neg hp] at h ⊢; exact best_len s i h
theorem heap_alloc_at (w : World) (k : Nat) (h : w.heap.size = k) (o : Obj) : (w.alloc o).heap[k]? = some o := by subst h; exact heap_alloc_new w o
theorem has_pre (l p : List UInt8) (w : World) : Calls Tryz.prog 64 #[.string (ba l), .string (ba p)] w fun e w' => e = .returned (.bool (Lib.hasPrefix l p)) ∧ w' = w := Tryz.strings_HasPrefix (ba l) (ba p) w
def tgA : Array Value := #[.string ⟨#[60, 105, 62]⟩, .string ⟨#[60, 47, 105, 62]⟩, .string ⟨#[60, 117, 62]⟩, .string ⟨#[60, 47, 117, 62]⟩, .string ⟨#[60, 98, 62]⟩, .string ⟨#[60, 47, 98, 62]⟩]
theorem tgA_at (w : World) (j : Nat) (h : j < 6) : (w.alloc (.cells tgA 9)).cell? ⟨w.heap.size, j, none⟩ = some (.string (ba (tgS (j + 1)))) := by
  rw [World.cell?_alloc_new]
  match j, h with
  | 0, _ => rfl
  | 1, _ => rfl
  | 2, _ => rfl
  | 3, _ => rfl
  | 4, _ => rfl
  | 5, _ => rfl
set_option maxHeartbeats 4000000 in
set_option maxRecDepth 100000 in
theorem pmark_any (l : List UInt8) (hl : l.length ≤ 1000000) (w : World) :
    Calls Tryz.prog 36 #[.string (ba l)] w (MadeRow w.heap.size (pm l) w) := by
  have hmf : ∀ (fn : Fn) (first cap : Array Value) (w : World), (Instr.makeFunc fn first cap).run Tryz.prog w = .ok (.func fn first cap) w := fun _ _ _ _ => rfl
  obtain ⟨Z, hZ⟩ : ∃ Z, pmR [] false false [] l = Z := ⟨_, rfl⟩
  have hpm : pm l = normR Z := by rw [← hZ]; rfl
  rw [hpm]
  have HZ := Lib.hid hZ
  clear hZ hpm
  have HMF := Lib.hid hmf
  go_enter Tryz.func36, Tryz.ntmps36
  go_wp2_with fail
  clear hmf
  go_loopw [0] (fun v wx => ∃ (s : List UInt8) (out : Rw) (i u : Bool) (text : List UInt8) (va : Value), v = .string (ba s) ∧ Hid (wx.heap[w.heap.size]? = some (.cells #[.slice none 0 0] 71 (0, 0))) ∧ Hid (wx.heap[w.heap.size + 1]? = some (.cells #[va] 71 (0, 0))) ∧ Hid (wx.heap[w.heap.size + 1 + 1]? = some (.cells #[.int .u8 0, .bool i, .bool u] 109 (0, 0))) ∧ Hid (wx.heap[w.heap.size + 1 + 1 + 1]? = some (.cells #[.string (ba text)] 9 (0, 0))) ∧ Hid (wx.ownsRow w.heap.size 111 5 va out.length (encL Rn.cells out)) ∧ Hid (pmR out i u text s = Z) ∧ out.length + s.length ≤ 1000000 ∧ tot out + text.length + s.length ≤ 1000000 ∧ Hid (Below w.heap.size w wx)) (fun v _ => szOf v)
  case atStart =>
    refine ⟨l, [], false, false, [], .slice none 0 0, rfl, ?_, ?_, ?_, ?_, Lib.hid (World.ownsRow_nil _ _ _ _), HZ, by simpa using hl, by simpa [tot] using hl, ?_⟩
    · exact Lib.hid (blk_stay (blk_stay (blk_stay (heap_alloc_new w _) (below1 _ (Nat.le_refl _))) (below1 _ (Nat.le_refl _))) (below1 _ (Nat.le_refl _)))
    · exact Lib.hid (blk_stay (blk_stay (heap_alloc_at _ _ (by simp) _) (below1 _ (Nat.le_refl _))) (below1 _ (Nat.le_refl _)))
    · exact Lib.hid (blk_stay (heap_alloc_at _ _ (by simp) _) (below1 _ (Nat.le_refl _)))
    · exact Lib.hid (heap_alloc_at _ _ (by simp) _)
    · exact Lib.hid ((((below1 _ (Nat.le_refl _)).alloc (by simp) _).alloc (by simp; omega) _).alloc (by simp; omega) _)
  case round =>
    clear HZ
    obtain ⟨s, out, i, u, text, va, rfl, H0, H1, H2, H3, HO, HZ, hb1, hb2, HB⟩ := hrel
    have hsz := HB.out.size
    have hl3 := heap_lt H3.out
    obtain ⟨a, c, rfl⟩ := own_len HO.out
    have hem := ba_empty s
    by_cases hs : s = []
    · subst hs
      have hem2 : (ba ([] : List UInt8)).toList.isEmpty = true := by rw [hem]; rfl
      clear hem
      have hzz := HZ.out
      rw [pm_nil] at hzz
      subst hzz
      have hnl : (out ++ [rnS text i u]).length ≤ 1048576 := by rw [List.length_append]; simp at hb1 ⊢; omega
      have hnt : tot (out ++ [rnS text i u]) ≤ 1048576 := by rw [tot_app]; simp [tot] at hb2 ⊢; omega
      have cN := fun v w hR => Norm_any v (out ++ [rnS text i u]) w hR hnl hnt
      obtain ⟨p0, p1, p2, pf, pl⟩ := blk3 H2.out
      go_wp2_with fail
      refine (turn_any w.heap.size (w.heap.size + 1) (w.heap.size + 1 + 1) (w.heap.size + 1 + 1 + 1) out _ text i u i u _ H1.out H2.out H3.out HO.out (by omega) (by omega) (by omega) (by omega) hsz).mono ?_
      rintro e w1 ⟨rfl, va1, K1, K2, K3, KO, hB1, hK⟩
      have K0 := Lib.hid (hK _ _ _ H0.out (by decide) (by omega) (by omega) (by omega))
      have HB1 := Lib.hid (HB.out.trans hB1)
      have HR := Lib.hid (RowR.of_own KO)
      have hsz1 := HB1.out.size
      clear hB1 hK K2 K3 KO p0 p1 p2 pf pl H0 H1 H2 H3 HO HB HZ
      obtain ⟨a1, c1, rfl⟩ := HR.out.len
      obtain ⟨o1, of1, ol1⟩ := blk1 K1
      generalize out ++ [rnS text i u] = Y at *
      go_wp2_with fail
      refine (cN _ _ HR.out).mono ?_
      rintro e w2 ⟨va2, rfl, ho, hb⟩
      obtain ⟨a2, c2, rfl⟩ := own_len ho
      have K0' := Lib.hid (blk_stay K0.out hb)
      have HO2 := Lib.hid ho
      have HB2 := Lib.hid (below_grow HB1.out hsz1 hb)
      obtain ⟨k1, kf1, kl1⟩ := blk1 K0'.out
      have kf1 := kf1 0
      clear o1 of1 ol1 ho hb K0
      go_wp2_with fail
      exact bodyPost_ret (results_cell_row Tryz.results36 _ _ _ _ _ _ _ rfl (blk_set K0'.out) Tryz.underlying71 rfl (by kernel_rfl)) rfl ⟨_, rfl, own_low (row_far (by decide) K0'.out HO2.out) hsz1, HB2.out.setCell (Nat.le_refl _) _⟩
    have hem2 : (ba s).toList.isEmpty = false := by rw [hem]; simpa using hs
    clear hem
    have hsl : 0 < s.length := List.length_pos_iff.2 hs
    obtain ⟨p0, p1, p2, pf, pl⟩ := blk3 H2.out
    have hpre := fun j w => has_pre s (tgS (j + 1)) w
    have HPR := Lib.hid hpre
    have HBE := Lib.hid (best_succ s)
    clear hpre
    go_wp2_with fail
    refine world_as (fun W => W.heap[wr.heap.size]? = some (.cells #[.int .u8 0, .bool i, .bool u] 109 (0, 0)) ∧ Below wr.heap.size wr W ∧ (∀ j, j < 6 → W.cell? ⟨wr.heap.size + 1, j, none⟩ = some (.string (ba (tgS (j + 1))))))
      ⟨heap_alloc2_old wr _ _, (below1 _ (Nat.le_refl _)).alloc (by simp) _, fun j hj => by have h := tgA_at (wr.alloc (.cells #[.int .u8 0, .bool i, .bool u] 109)) j hj; rw [World.size_alloc] at h; exact h⟩ ?_
    rintro W ⟨H4', hbW, hT'⟩
    have H0 := Lib.hid (blk_stay H0.out hbW)
    have H1 := Lib.hid (blk_stay H1.out hbW)
    have H2 := Lib.hid (blk_stay H2.out hbW)
    have H3 := Lib.hid (blk_stay H3.out hbW)
    have H4 := Lib.hid H4'
    have HT := Lib.hid hT'
    have HO := Lib.hid (own_stays HO.out hbW)
    have HB := Lib.hid (below_grow HB.out hsz hbW)
    have hsr := heap_lt H4'
    clear p0 p1 p2 pf pl H4' hT' hbW
    go_loop [17, 8] (fun v t => ∃ j : Nat, v = .int .i64 j ∧ j ≤ 6 ∧ t = .string (ba (tgS (best s j)))) (fun v _ => 6 - (intOf v).toNat)
    case atStart => exact ⟨0, rfl, by omega, rfl⟩
    case round =>
      obtain ⟨j, rfl, hj, rfl⟩ := hrel
      by_cases hlt : j < 6
      · have hjz : (j : Int) < 6 := by omega
        have hct := HT.out j hlt
        have hp := HPR.out j
        have hbe := HBE.out j
        obtain ⟨G, hG⟩ : ∃ G, tgS (j + 1) = G := ⟨_, rfl⟩
        rw [hG] at hct hp hbe
        have HG := Lib.hid hG
        clear hG
        cases hpf : Lib.hasPrefix s G
        · rw [hpf] at hp hbe
          go_wp2_with fail
          refine (hp _).mono ?_
          rintro e w2 ⟨rfl, rfl⟩
          go_wp2_with fail
          go_round
          case rel => exact ⟨j + 1, by go_num, by omega, by rw [hbe]; rfl⟩
          case measure => simp [intOf]; omega
        · rw [hpf] at hp hbe
          go_wp2_with fail
          refine (hp _).mono ?_
          rintro e w2 ⟨rfl, rfl⟩
          go_wp2_with fail
          go_round
          case rel => exact ⟨j + 1, by go_num, by omega, by rw [hbe, if_pos trivial, HG.out]⟩
          case measure => simp [intOf]; omega
      · obtain rfl : j = 6 := by omega
        have hz := HZ.out
        rw [pm_step _ _ _ _ _ hs] at hz
        have hjz : ¬ (6 : Int) < 6 := by omega
        have hk := best_le s 6
        have hwl : best s 6 ≠ 0 → tgW (best s 6) ≤ s.length := fun h => (best_len s 6 h).resolve_right (by omega)
        change (if best s 6 = 0 then pmR out i u (text ++ [s.getD 0 0]) (s.drop 1) else pmR (out ++ [rnS text i u]) (nxI (best s 6) i) (nxU (best s 6) u) [] (s.drop (tgW (best s 6)))) = Z at hz
        clear HZ HPR HBE HT
        generalize best s 6 = k at *
        obtain ⟨q1, qf, ql⟩ := blk1 H3.out
        have qf := qf 0
        match k, hk with
        | 0, _ =>
          rw [if_pos rfl] at hz
          have hx := ext_ba s 0 1
          have hx2 := ext_ba s 1 s.length
          have hsz1 := ba_size s
          rw [show ba (tgS 0) = ⟨#[]⟩ from rfl]
          have hd1 : s.take 1 = [s.getD 0 0] := by
            cases s with
            | nil => exact absurd rfl hs
            | cons b t => rfl
          rw [List.drop_zero, hd1] at hx
          rw [List.take_length] at hx2
          have hdl : (s.drop 1).length = s.length - 1 := List.length_drop
          have hs1 : (1 : Int) ≤ ((ba s).size : Int) := by omega
          have hts := ba_size text
          have hs3 : (ba [s.getD 0 0]).size = 1 := rfl
          have hs2 : ¬ ((ba text).size + (ba [s.getD 0 0]).size > 9223372036854775807) := by omega
          clear hd1 hem2 hs3
          generalize s.drop 1 = S1 at *
          generalize s.getD 0 0 = b0 at *
          have HZ := Lib.hid hz
          clear hz
          have HY := Lib.hid (ba_app text [b0])
          generalize ba [b0] = CH at *
          have hm30 : w.heap.size + 1 + 1 + 1 ≠ w.heap.size := by omega
          go_wp2_with fail
          go_region
          go_wp2_with fail
          rw [HY.out]
          go_roundw
          case rel =>
            refine ⟨S1, out, i, u, text ++ [b0], _, rfl, Lib.hid (blk_other H0.out (by omega)), Lib.hid (blk_other H1.out (by omega)), Lib.hid (blk_other H2.out (by omega)), Lib.hid (blk_set H3.out), Lib.hid (row_far (by decide) H3.out HO.out), HZ, by omega, by rw [List.length_append, List.length_singleton]; omega, Lib.hid (HB.out.setCell (show w.heap.size ≤ w.heap.size + 1 + 1 + 1 by omega) _).drew⟩
          case measure => show (ba S1).size < (ba s).size; rw [ba_size]; omega
        | 1, _ =>
          rw [if_neg (by decide)] at hz
          change pmR (out ++ [rnS text i u]) true u [] (s.drop 3) = Z at hz
          have hwk : 3 ≤ s.length := hwl (by decide)
          have hx2 := ext_ba s 3 s.length
          have hsz1 := ba_size s
          rw [show ba (tgS 1) = ⟨#[60, 105, 62]⟩ from rfl]
          rw [List.take_length] at hx2
          have hdl : (s.drop 3).length = s.length - 3 := List.length_drop
          have hs1 : (3 : Int) ≤ ((ba s).size : Int) := by omega
          have hszW := HB.out.size
          clear hwl hem2
          generalize s.drop 3 = S1 at *
          have HZ := Lib.hid hz
          clear hz q1 qf ql
          obtain ⟨m0, m1, m2, mf, ml⟩ := blk3 H4.out
          go_wp2_with fail
          refine (turn_any w.heap.size (w.heap.size + 1) (w.heap.size + 1 + 1) (w.heap.size + 1 + 1 + 1) out _ text i u true u _ (blk_other (c := wr.heap.size) (o := 1) (u := .bool true) H1.out (by omega)) (blk_other (c := wr.heap.size) (o := 1) (u := .bool true) H2.out (by omega)) (blk_other (c := wr.heap.size) (o := 1) (u := .bool true) H3.out (by omega)) (row_far (o := 1) (u := .bool true) (by decide) H4.out HO.out) (by omega) (by omega) (by omega) (by omega) (by simp; omega)).mono ?_
          rintro e w1 ⟨rfl, va1, K1, K2, K3, KO, hB1, hK⟩
          have K0 := Lib.hid (hK _ _ _ (blk_other (c := wr.heap.size) (o := 1) (u := .bool true) H0.out (by omega)) (by decide) (by omega) (by omega) (by omega))
          have HB1 := Lib.hid ((HB.out.setCell (show w.heap.size ≤ wr.heap.size by omega) _).trans hB1)
          have K1 := Lib.hid K1
          have K2 := Lib.hid K2
          have K3 := Lib.hid K3
          have KO := Lib.hid KO
          clear hB1 hK m0 m1 m2 mf ml
          go_wp2_with fail
          go_roundw
          case rel => exact ⟨S1, out ++ [rnS text i u], true, u, [], va1, rfl, K0, K1, K2, K3, KO, HZ, by rw [List.length_append, List.length_singleton]; omega, by rw [tot_app]; simp [tot] at hb2 ⊢; omega, HB1⟩
          case measure => show (ba S1).size < (ba s).size; rw [ba_size]; omega
        | 2, _ =>
          rw [if_neg (by decide)] at hz
          change pmR (out ++ [rnS text i u]) false u [] (s.drop 4) = Z at hz
          have hwk : 4 ≤ s.length := hwl (by decide)
          have hx2 := ext_ba s 4 s.length
          have hsz1 := ba_size s
          rw [show ba (tgS 2) = ⟨#[60, 47, 105, 62]⟩ from rfl]
          rw [List.take_length] at hx2
          have hdl : (s.drop 4).length = s.length - 4 := List.length_drop
          have hs1 : (4 : Int) ≤ ((ba s).size : Int) := by omega
          have hszW := HB.out.size
          clear hwl hem2
          generalize s.drop 4 = S1 at *
          have HZ := Lib.hid hz
          clear hz q1 qf ql
          obtain ⟨m0, m1, m2, mf, ml⟩ := blk3 H4.out
          go_wp2_with fail
          refine (turn_any w.heap.size (w.heap.size + 1) (w.heap.size + 1 + 1) (w.heap.size + 1 + 1 + 1) out _ text i u false u _ (blk_other (c := wr.heap.size) (o := 1) (u := .bool false) H1.out (by omega)) (blk_other (c := wr.heap.size) (o := 1) (u := .bool false) H2.out (by omega)) (blk_other (c := wr.heap.size) (o := 1) (u := .bool false) H3.out (by omega)) (row_far (o := 1) (u := .bool false) (by decide) H4.out HO.out) (by omega) (by omega) (by omega) (by omega) (by simp; omega)).mono ?_
          rintro e w1 ⟨rfl, va1, K1, K2, K3, KO, hB1, hK⟩
          have K0 := Lib.hid (hK _ _ _ (blk_other (c := wr.heap.size) (o := 1) (u := .bool false) H0.out (by omega)) (by decide) (by omega) (by omega) (by omega))
          have HB1 := Lib.hid ((HB.out.setCell (show w.heap.size ≤ wr.heap.size by omega) _).trans hB1)
          have K1 := Lib.hid K1
          have K2 := Lib.hid K2
          have K3 := Lib.hid K3
          have KO := Lib.hid KO
          clear hB1 hK m0 m1 m2 mf ml
          go_wp2_with fail
          go_roundw
          case rel => exact ⟨S1, out ++ [rnS text i u], false, u, [], va1, rfl, K0, K1, K2, K3, KO, HZ, by rw [List.length_append, List.length_singleton]; omega, by rw [tot_app]; simp [tot] at hb2 ⊢; omega, HB1⟩
          case measure => show (ba S1).size < (ba s).size; rw [ba_size]; omega
        | 3, _ =>
          rw [if_neg (by decide)] at hz
          change pmR (out ++ [rnS text i u]) i true [] (s.drop 3) = Z at hz
          have hwk : 3 ≤ s.length := hwl (by decide)
          have hx2 := ext_ba s 3 s.length
          have hsz1 := ba_size s
          rw [show ba (tgS 3) = ⟨#[60, 117, 62]⟩ from rfl]
          rw [List.take_length] at hx2
          have hdl : (s.drop 3).length = s.length - 3 := List.length_drop
          have hs1 : (3 : Int) ≤ ((ba s).size : Int) := by omega
          have hszW := HB.out.size
          clear hwl hem2
          generalize s.drop 3 = S1 at *
          have HZ := Lib.hid hz
          clear hz q1 qf ql
          obtain ⟨m0, m1, m2, mf, ml⟩ := blk3 H4.out
          go_wp2_with fail
          refine (turn_any w.heap.size (w.heap.size + 1) (w.heap.size + 1 + 1) (w.heap.size + 1 + 1 + 1) out _ text i u i true _ (blk_other (c := wr.heap.size) (o := 2) (u := .bool true) H1.out (by omega)) (blk_other (c := wr.heap.size) (o := 2) (u := .bool true) H2.out (by omega)) (blk_other (c := wr.heap.size) (o := 2) (u := .bool true) H3.out (by omega)) (row_far (o := 2) (u := .bool true) (by decide) H4.out HO.out) (by omega) (by omega) (by omega) (by omega) (by simp; omega)).mono ?_
          rintro e w1 ⟨rfl, va1, K1, K2, K3, KO, hB1, hK⟩
          have K0 := Lib.hid (hK _ _ _ (blk_other (c := wr.heap.size) (o := 2) (u := .bool true) H0.out (by omega)) (by decide) (by omega) (by omega) (by omega))
          have HB1 := Lib.hid ((HB.out.setCell (show w.heap.size ≤ wr.heap.size by omega) _).trans hB1)
          have K1 := Lib.hid K1
          have K2 := Lib.hid K2
          have K3 := Lib.hid K3
          have KO := Lib.hid KO
          clear hB1 hK m0 m1 m2 mf ml
          go_wp2_with fail
          go_roundw
          case rel => exact ⟨S1, out ++ [rnS text i u], i, true, [], va1, rfl, K0, K1, K2, K3, KO, HZ, by rw [List.length_append, List.length_singleton]; omega, by rw [tot_app]; simp [tot] at hb2 ⊢; omega, HB1⟩
          case measure => show (ba S1).size < (ba s).size; rw [ba_size]; omega
        | 4, _ =>
          rw [if_neg (by decide)] at hz
          change pmR (out ++ [rnS text i u]) i false [] (s.drop 4) = Z at hz
          have hwk : 4 ≤ s.length := hwl (by decide)
          have hx2 := ext_ba s 4 s.length
          have hsz1 := ba_size s
          rw [show ba (tgS 4) = ⟨#[60, 47, 117, 62]⟩ from rfl]
          rw [List.take_length] at hx2
          have hdl : (s.drop 4).length = s.length - 4 := List.length_drop
          have hs1 : (4 : Int) ≤ ((ba s).size : Int) := by omega
          have hszW := HB.out.size
          clear hwl hem2
          generalize s.drop 4 = S1 at *
          have HZ := Lib.hid hz
          clear hz q1 qf ql
          obtain ⟨m0, m1, m2, mf, ml⟩ := blk3 H4.out
          go_wp2_with fail
          refine (turn_any w.heap.size (w.heap.size + 1) (w.heap.size + 1 + 1) (w.heap.size + 1 + 1 + 1) out _ text i u i false _ (blk_other (c := wr.heap.size) (o := 2) (u := .bool false) H1.out (by omega)) (blk_other (c := wr.heap.size) (o := 2) (u := .bool false) H2.out (by omega)) (blk_other (c := wr.heap.size) (o := 2) (u := .bool false) H3.out (by omega)) (row_far (o := 2) (u := .bool false) (by decide) H4.out HO.out) (by omega) (by omega) (by omega) (by omega) (by simp; omega)).mono ?_
          rintro e w1 ⟨rfl, va1, K1, K2, K3, KO, hB1, hK⟩
          have K0 := Lib.hid (hK _ _ _ (blk_other (c := wr.heap.size) (o := 2) (u := .bool false) H0.out (by omega)) (by decide) (by omega) (by omega) (by omega))
          have HB1 := Lib.hid ((HB.out.setCell (show w.heap.size ≤ wr.heap.size by omega) _).trans hB1)
          have K1 := Lib.hid K1
          have K2 := Lib.hid K2
          have K3 := Lib.hid K3
          have KO := Lib.hid KO
          clear hB1 hK m0 m1 m2 mf ml
          go_wp2_with fail
          go_roundw
          case rel => exact ⟨S1, out ++ [rnS text i u], i, false, [], va1, rfl, K0, K1, K2, K3, KO, HZ, by rw [List.length_append, List.length_singleton]; omega, by rw [tot_app]; simp [tot] at hb2 ⊢; omega, HB1⟩
          case measure => show (ba S1).size < (ba s).size; rw [ba_size]; omega
        | 5, _ =>
          rw [if_neg (by decide)] at hz
          change pmR (out ++ [rnS text i u]) i u [] (s.drop 3) = Z at hz
          have hwk : 3 ≤ s.length := hwl (by decide)
          have hx2 := ext_ba s 3 s.length
          have hsz1 := ba_size s
          rw [show ba (tgS 5) = ⟨#[60, 98, 62]⟩ from rfl]
          rw [List.take_length] at hx2
          have hdl : (s.drop 3).length = s.length - 3 := List.length_drop
          have hs1 : (3 : Int) ≤ ((ba s).size : Int) := by omega
          have hszW := HB.out.size
          clear hwl hem2
          generalize s.drop 3 = S1 at *
          have HZ := Lib.hid hz
          clear hz q1 qf ql
          obtain ⟨m0, m1, m2, mf, ml⟩ := blk3 H4.out
          go_wp2_with fail
          refine (turn_any w.heap.size (w.heap.size + 1) (w.heap.size + 1 + 1) (w.heap.size + 1 + 1 + 1) out _ text i u i u _ H1.out H2.out H3.out HO.out (by omega) (by omega) (by omega) (by omega) (by omega)).mono ?_
          rintro e w1 ⟨rfl, va1, K1, K2, K3, KO, hB1, hK⟩
          have K0 := Lib.hid (hK _ _ _ H0.out (by decide) (by omega) (by omega) (by omega))
          have HB1 := Lib.hid (HB.out.trans hB1)
          have K1 := Lib.hid K1
          have K2 := Lib.hid K2
          have K3 := Lib.hid K3
          have KO := Lib.hid KO
          clear hB1 hK m0 m1 m2 mf ml
          go_wp2_with fail
          go_roundw
          case rel => exact ⟨S1, out ++ [rnS text i u], i, u, [], va1, rfl, K0, K1, K2, K3, KO, HZ, by rw [List.length_append, List.length_singleton]; omega, by rw [tot_app]; simp [tot] at hb2 ⊢; omega, HB1⟩
          case measure => show (ba S1).size < (ba s).size; rw [ba_size]; omega
        | 6, _ =>
          rw [if_neg (by decide)] at hz
          change pmR (out ++ [rnS text i u]) i u [] (s.drop 4) = Z at hz
          have hwk : 4 ≤ s.length := hwl (by decide)
          have hx2 := ext_ba s 4 s.length
          have hsz1 := ba_size s
          rw [show ba (tgS 6) = ⟨#[60, 47, 98, 62]⟩ from rfl]
          rw [List.take_length] at hx2
          have hdl : (s.drop 4).length = s.length - 4 := List.length_drop
          have hs1 : (4 : Int) ≤ ((ba s).size : Int) := by omega
          have hszW := HB.out.size
          clear hwl hem2
          generalize s.drop 4 = S1 at *
          have HZ := Lib.hid hz
          clear hz q1 qf ql
          obtain ⟨m0, m1, m2, mf, ml⟩ := blk3 H4.out
          go_wp2_with fail
          refine (turn_any w.heap.size (w.heap.size + 1) (w.heap.size + 1 + 1) (w.heap.size + 1 + 1 + 1) out _ text i u i u _ H1.out H2.out H3.out HO.out (by omega) (by omega) (by omega) (by omega) (by omega)).mono ?_
          rintro e w1 ⟨rfl, va1, K1, K2, K3, KO, hB1, hK⟩
          have K0 := Lib.hid (hK _ _ _ H0.out (by decide) (by omega) (by omega) (by omega))
          have HB1 := Lib.hid (HB.out.trans hB1)
          have K1 := Lib.hid K1
          have K2 := Lib.hid K2
          have K3 := Lib.hid K3
          have KO := Lib.hid KO
          clear hB1 hK m0 m1 m2 mf ml
          go_wp2_with fail
          go_roundw
          case rel => exact ⟨S1, out ++ [rnS text i u], i, u, [], va1, rfl, K0, K1, K2, K3, KO, HZ, by rw [List.length_append, List.length_singleton]; omega, by rw [tot_app]; simp [tot] at hb2 ⊢; omega, HB1⟩
          case measure => show (ba S1).size < (ba s).size; rw [ba_size]; omega
end Go.Proofs.YtgiaohccebolpaaGreatDoor
