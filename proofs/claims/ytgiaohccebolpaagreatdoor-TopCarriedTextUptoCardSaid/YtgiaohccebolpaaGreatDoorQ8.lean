import Derived.Test.YtgiaohccebolpaaGreatDoorQ7
namespace Go.Proofs.YtgiaohccebolpaaGreatDoor
open Go Go.RowKit
open Go.Lib hiding intOf
set_option linter.unusedVariables false
/-! ### a row of an event -/
def badT (t : List UInt8) : Bool := decide (t = []) || (((t.getD 0 0).toNat == 32) || (((t.getD (t.length - 1) 0).toNat == 32) || Lib.contains t [32, 32]))
def rowE (L : Rw) : Int := if scE L = 0 then (if badT (plainR L) = true then 4 else if 32 < lenR L then 11 else 0) else scE L
structure rowFit (L : Rw) : Prop where
  n : L.length ≤ 1048576
  t : tot L ≤ 1048576
  r : ∀ x ∈ L, x.fit
theorem idx_last (l : List UInt8) (h : l ≠ []) (w : World) : (Instr.index 9 (.string (ba l)) (.int .i64 (((ba l).size : Int) - 1))).run Tryz.prog w = .ok (.int .u8 ((l.getD (l.length - 1) 0).toNat : Int)) w := by
  have hl : 0 < l.length := List.length_pos_iff.2 h
  have e := idx_str (ba l) (l.length - 1) (by rw [ba_size]; omega) w
  have e2 : ((ba l).size : Int) - 1 = ((l.length - 1 : Nat) : Int) := by rw [ba_size]; omega
  rw [e2, e]; rfl
theorem idx_first (l : List UInt8) (h : l ≠ []) (w : World) : (Instr.index 9 (.string (ba l)) (.int .i64 0)).run Tryz.prog w = .ok (.int .u8 ((l.getD 0 0).toNat : Int)) w := by
  have hl : 0 < l.length := List.length_pos_iff.2 h
  exact idx_str (ba l) 0 (by rw [ba_size]; omega) w
set_option maxHeartbeats 8000000 in
set_option maxRecDepth 100000 in
theorem row_any (v : Value) (L : Rw) (w : World) (hR : RunsR w v L) (hf : rowFit L) (hE : Env w) :
    Calls Tryz.prog 69 #[.agg #[v]] w fun e w' => e = .returned (.int .i64 (rowE L)) ∧ Below w.heap.size w w' := by
  obtain ⟨a, c, rfl⟩ := RowR.len hR
  have cC := fun w' h hE => scheck_any (.slice a L.length c) L w' h hf.r hf.n hE
  have cP := fun w' h => plain_any (.slice a L.length c) L w' h hf.n hf.t
  have cL := fun w' h hE => slen_any (.slice a L.length c) L w' h hf.n hf.t hE
  have hq : rowE L = if scE L = 0 then (if badT (plainR L) = true then 4 else if 32 < lenR L then 11 else 0) else scE L := rfl
  have hpl : (plainR L).length ≤ 1048576 := by rw [plainR_len]; exact hf.t
  have HR := Lib.hid hR
  generalize rowE L = Z at *
  generalize scE L = S at *
  clear hR
  by_cases hS : S = 0
  · subst hS
    rw [if_pos rfl] at hq
    have hb : badT (plainR L) = (decide (plainR L = []) || ((((plainR L).getD 0 0).toNat == 32) || ((((plainR L).getD ((plainR L).length - 1) 0).toNat == 32) || Lib.contains (plainR L) [32, 32]))) := rfl
    have hem := ba_empty (plainR L)
    have hi0 := idx_first (plainR L)
    have hil := idx_last (plainR L)
    have hsz : (ba (plainR L)).size ≤ 1048576 := by rw [ba_size]; exact hpl
    have hsz1 : plainR L ≠ [] → 1 ≤ (ba (plainR L)).size := fun h => by rw [ba_size]; exact List.length_pos_iff.2 h
    have cN := fun m w' hm => Tryz.strings_Contains (ba (plainR L)) ⟨#[32, 32]⟩ m w' (by omega) hm
    rw [ba_data, show (⟨#[32, 32]⟩ : ByteArray).data.toList = [32, 32] from rfl] at cN
    generalize plainR L = T at *
    generalize lenR L = N at *
    generalize (T.getD 0 0).toNat = f0 at *
    generalize (T.getD (T.length - 1) 0).toNat = fl at *
    generalize Lib.contains T [32, 32] = CT at *
    generalize badT T = BT at *
    have HQ := Lib.hid hq
    have HB := Lib.hid hb
    clear hq hb
    have start : True := trivial
    by_cases hT : T = []
    · have hem2 : (ba T).toList.isEmpty = true := by rw [hem]; simpa using hT
      have HZ : Hid (Z = 4) := Lib.hid (by rw [HQ.out, HB.out, decide_eq_true hT]; rfl)
      clear hem hi0 hil hT cN cL hsz1 hpl
      generalize ba T = B at *
      go_enter Tryz.func69, Tryz.ntmps69
      go_wp2_with fail
      refine (cC _ (HR.out.alloc _) (hE.below (below1 _ (Nat.le_refl _)))).mono ?_
      rintro e w1 ⟨rfl, hb1⟩
      obtain ⟨o1, _, _⟩ := blk1 (blk_stay (heap_alloc_new w _) hb1)
      have HB1 := Lib.hid (below_grow (below1 (B := w.heap.size) (.cells #[.slice a L.length c] 71) (Nat.le_refl _)) (by simp) hb1)
      clear hb1
      go_wp2_with fail
      refine (cP _ (HR.out.below HB1.out)).mono ?_
      rintro e w2 ⟨rfl, hb2⟩
      have HB2 := Lib.hid (below_trans HB1.out hb2)
      clear hb2
      go_wp2_with fail
      go_ret
      exact ⟨ret_int HZ.out.symm, HB2.out⟩
    have hem2 : (ba T).toList.isEmpty = false := by rw [hem]; simpa using hT
    have hdT : decide (T = []) = false := by simpa using hT
    have i0 := hi0 hT
    have il := hil hT
    have hs1 := hsz1 hT
    clear hi0 hil hsz1 hem hpl
    by_cases h0 : f0 = 32
    · have HZ : Hid (Z = 4) := Lib.hid (by rw [HQ.out, HB.out, hdT, h0]; rfl)
      have h0z : ((f0 : Int) == 32) = true := by simp [h0]
      clear h0 cN cL hdT hT
      generalize ba T = B at *
      go_enter Tryz.func69, Tryz.ntmps69
      go_wp2_with fail
      refine (cC _ (HR.out.alloc _) (hE.below (below1 _ (Nat.le_refl _)))).mono ?_
      rintro e w1 ⟨rfl, hb1⟩
      have hrow := Lib.hid (blk_stay (heap_alloc_new w _) hb1)
      obtain ⟨o1, _, _⟩ := blk1 hrow.out
      have HB1 := Lib.hid (below_grow (below1 (B := w.heap.size) (.cells #[.slice a L.length c] 71) (Nat.le_refl _)) (by simp) hb1)
      clear hb1
      go_wp2_with fail
      refine (cP _ (HR.out.below HB1.out)).mono ?_
      rintro e w2 ⟨rfl, hb2⟩
      have HB2 := Lib.hid (below_trans HB1.out hb2)
      have hrow2 := Lib.hid (blk_stay hrow.out hb2)
      clear hb2 o1
      obtain ⟨o1, _, _⟩ := blk1 hrow2.out
      go_wp2_with fail
      go_ret
      exact ⟨ret_int HZ.out.symm, HB2.out⟩
    have h0b : (f0 == 32) = false := by simpa using h0
    have h0z : ((f0 : Int) == 32) = false := by simp; omega
    clear h0
    by_cases hl : fl = 32
    · have HZ : Hid (Z = 4) := Lib.hid (by rw [HQ.out, HB.out, hdT, h0b, hl]; rfl)
      have hlz : ((fl : Int) == 32) = true := by simp [hl]
      clear hl cN cL hdT hT h0b
      generalize ba T = B at *
      go_enter Tryz.func69, Tryz.ntmps69
      go_wp2_with fail
      refine (cC _ (HR.out.alloc _) (hE.below (below1 _ (Nat.le_refl _)))).mono ?_
      rintro e w1 ⟨rfl, hb1⟩
      have hrow := Lib.hid (blk_stay (heap_alloc_new w _) hb1)
      obtain ⟨o1, _, _⟩ := blk1 hrow.out
      have HB1 := Lib.hid (below_grow (below1 (B := w.heap.size) (.cells #[.slice a L.length c] 71) (Nat.le_refl _)) (by simp) hb1)
      clear hb1
      go_wp2_with fail
      refine (cP _ (HR.out.below HB1.out)).mono ?_
      rintro e w2 ⟨rfl, hb2⟩
      have HB2 := Lib.hid (below_trans HB1.out hb2)
      have hrow2 := Lib.hid (blk_stay hrow.out hb2)
      clear hb2 o1
      obtain ⟨o1, _, _⟩ := blk1 hrow2.out
      go_wp2_with fail
      go_ret
      exact ⟨ret_int HZ.out.symm, HB2.out⟩
    have hlb : (fl == 32) = false := by simpa using hl
    have hlz : ((fl : Int) == 32) = false := by simp; omega
    clear hl
    cases CT
    case true =>
      have HZ : Hid (Z = 4) := Lib.hid (by rw [HQ.out, HB.out, hdT, h0b, hlb]; rfl)
      clear cL hdT hT h0b hlb
      generalize ba T = B at *
      go_enter Tryz.func69, Tryz.ntmps69
      go_wp2_with fail
      refine (cC _ (HR.out.alloc _) (hE.below (below1 _ (Nat.le_refl _)))).mono ?_
      rintro e w1 ⟨rfl, hb1⟩
      have hrow := Lib.hid (blk_stay (heap_alloc_new w _) hb1)
      obtain ⟨o1, _, _⟩ := blk1 hrow.out
      have HB1 := Lib.hid (below_grow (below1 (B := w.heap.size) (.cells #[.slice a L.length c] 71) (Nat.le_refl _)) (by simp) hb1)
      clear hb1
      go_wp2_with fail
      refine (cP _ (HR.out.below HB1.out)).mono ?_
      rintro e w2 ⟨rfl, hb2⟩
      have HB2 := Lib.hid (below_trans HB1.out hb2)
      have hrow2 := Lib.hid (blk_stay hrow.out hb2)
      clear hb2 o1
      obtain ⟨o1, _, _⟩ := blk1 hrow2.out
      go_wp2_with fail
      obtain ⟨m, hm⟩ := (hE.below HB2.out).maxl
      have CM := Lib.hid (cN m w2 hm)
      clear hm cN
      refine CM.out.mono ?_
      rintro e w3 ⟨rfl, rfl⟩
      go_wp2_with fail
      go_ret
      exact ⟨ret_int HZ.out.symm, HB2.out⟩
    have HB' : Hid (BT = false) := Lib.hid (by rw [HB.out, hdT, h0b, hlb]; rfl)
    by_cases hN : 32 < N
    · have HZ : Hid (Z = 11) := Lib.hid (by rw [HQ.out, HB'.out, if_neg (by simp), if_pos hN])
      clear hdT hT h0b hlb
      generalize ba T = B at *
      go_enter Tryz.func69, Tryz.ntmps69
      go_wp2_with fail
      refine (cC _ (HR.out.alloc _) (hE.below (below1 _ (Nat.le_refl _)))).mono ?_
      rintro e w1 ⟨rfl, hb1⟩
      have hrow := Lib.hid (blk_stay (heap_alloc_new w _) hb1)
      obtain ⟨o1, _, _⟩ := blk1 hrow.out
      have HB1 := Lib.hid (below_grow (below1 (B := w.heap.size) (.cells #[.slice a L.length c] 71) (Nat.le_refl _)) (by simp) hb1)
      clear hb1
      go_wp2_with fail
      refine (cP _ (HR.out.below HB1.out)).mono ?_
      rintro e w2 ⟨rfl, hb2⟩
      have HB2 := Lib.hid (below_trans HB1.out hb2)
      have hrow2 := Lib.hid (blk_stay hrow.out hb2)
      clear hb2 o1
      obtain ⟨o1, _, _⟩ := blk1 hrow2.out
      go_wp2_with fail
      obtain ⟨m, hm⟩ := (hE.below HB2.out).maxl
      have CM := Lib.hid (cN m w2 hm)
      clear hm cN
      refine CM.out.mono ?_
      rintro e w3 ⟨rfl, rfl⟩
      go_wp2_with fail
      refine (cL _ (HR.out.below HB2.out) (hE.below HB2.out)).mono ?_
      rintro e w4 ⟨rfl, hb4⟩
      have HB4 := Lib.hid (below_trans HB2.out hb4)
      clear hb4
      go_wp2_with fail
      go_ret
      exact ⟨ret_int HZ.out.symm, HB4.out⟩
    · have HZ : Hid (Z = 0) := Lib.hid (by rw [HQ.out, HB'.out, if_neg (by simp), if_neg hN])
      clear hdT hT h0b hlb
      generalize ba T = B at *
      go_enter Tryz.func69, Tryz.ntmps69
      go_wp2_with fail
      refine (cC _ (HR.out.alloc _) (hE.below (below1 _ (Nat.le_refl _)))).mono ?_
      rintro e w1 ⟨rfl, hb1⟩
      have hrow := Lib.hid (blk_stay (heap_alloc_new w _) hb1)
      obtain ⟨o1, _, _⟩ := blk1 hrow.out
      have HB1 := Lib.hid (below_grow (below1 (B := w.heap.size) (.cells #[.slice a L.length c] 71) (Nat.le_refl _)) (by simp) hb1)
      clear hb1
      go_wp2_with fail
      refine (cP _ (HR.out.below HB1.out)).mono ?_
      rintro e w2 ⟨rfl, hb2⟩
      have HB2 := Lib.hid (below_trans HB1.out hb2)
      have hrow2 := Lib.hid (blk_stay hrow.out hb2)
      clear hb2 o1
      obtain ⟨o1, _, _⟩ := blk1 hrow2.out
      go_wp2_with fail
      obtain ⟨m, hm⟩ := (hE.below HB2.out).maxl
      have CM := Lib.hid (cN m w2 hm)
      clear hm cN
      refine CM.out.mono ?_
      rintro e w3 ⟨rfl, rfl⟩
      go_wp2_with fail
      refine (cL _ (HR.out.below HB2.out) (hE.below HB2.out)).mono ?_
      rintro e w4 ⟨rfl, hb4⟩
      have HB4 := Lib.hid (below_trans HB2.out hb4)
      clear hb4
      go_wp2_with fail
      go_ret
      exact ⟨ret_int HZ.out.symm, HB4.out⟩
  · have HZ : Hid (Z = S) := Lib.hid (by rw [hq, if_neg hS])
    have hSz : (S == 0) = false := by simpa using hS
    clear hq hS cP cL hpl
    go_enter Tryz.func69, Tryz.ntmps69
    go_wp2_with fail
    refine (cC _ (HR.out.alloc _) (hE.below (below1 _ (Nat.le_refl _)))).mono ?_
    rintro e w1 ⟨rfl, hb1⟩
    have hrow := Lib.hid (blk_stay (heap_alloc_new w _) hb1)
    obtain ⟨o1, _, _⟩ := blk1 hrow.out
    have HB1 := Lib.hid (below_grow (below1 (B := w.heap.size) (.cells #[.slice a L.length c] 71) (Nat.le_refl _)) (by simp) hb1)
    clear hb1
    go_wp2_with fail
    go_ret
    exact ⟨ret_int HZ.out.symm, HB1.out⟩
end Go.Proofs.YtgiaohccebolpaaGreatDoor
