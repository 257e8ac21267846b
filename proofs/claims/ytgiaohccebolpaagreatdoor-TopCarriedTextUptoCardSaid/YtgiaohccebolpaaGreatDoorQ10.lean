import Derived.Test.YtgiaohccebolpaaGreatDoorQ9
import Derived.Test.YtgiaohccebolpaaGreatDoorQ7
import Derived.Maps.OwnSet
import Derived.Maps.OwnOps
import Derived.Maps.Keyed
namespace Go.Proofs.YtgiaohccebolpaaGreatDoor
open Go Go.RowKit
open Go.Lib hiding intOf
set_option linter.unusedVariables false
/-! ### the order of events -/
def cmpI (a b : Int) : Int := if a < b then -1 else if b < a then 1 else 0
def orI (a b : Int) : Int := if a = 0 then b else a
def ltE (x y : Ev) : Bool := decide (orI (cmpI x.inn y.inn) (cmpI x.id y.id) < 0)
theorem isNaN_any (a : Int) (w : World) : Calls Tryz.prog 74 #[.int .i64 a] w fun e w' => e = .returned (.bool false) ∧ w' = w := by
  go_enter Tryz.func74, Tryz.ntmps74
  go_wp2
  go_ret
  exact ⟨by simp, rfl⟩
set_option maxHeartbeats 1000000 in
set_option maxRecDepth 100000 in
theorem cmp_any (a b : Int) (w : World) : Calls Tryz.prog 42 #[.int .i64 a, .int .i64 b] w fun e w' => e = .returned (.int .i64 (cmpI a b)) ∧ w' = w := by
  have c1 := isNaN_any a w
  have c2 := isNaN_any b w
  have hd : cmpI a b = if a < b then -1 else if b < a then 1 else 0 := rfl
  by_cases h1 : a < b
  · rw [if_pos h1] at hd
    rw [hd]
    clear hd
    go_enter Tryz.func42, Tryz.ntmps42
    go_wp2_with fail
    refine c1.mono ?_
    rintro e w1 ⟨rfl, rfl⟩
    go_wp2_with fail
    refine c2.mono ?_
    rintro e w2 ⟨rfl, rfl⟩
    go_wp2_with fail
    go_ret
    exact ⟨rfl, rfl⟩
  · rw [if_neg h1] at hd
    by_cases h2 : b < a
    · rw [if_pos h2] at hd
      rw [hd]
      clear hd
      go_enter Tryz.func42, Tryz.ntmps42
      go_wp2_with fail
      refine c1.mono ?_
      rintro e w1 ⟨rfl, rfl⟩
      go_wp2_with fail
      refine c2.mono ?_
      rintro e w2 ⟨rfl, rfl⟩
      go_wp2_with fail
      go_ret
      exact ⟨rfl, rfl⟩
    · rw [if_neg h2] at hd
      rw [hd]
      clear hd
      go_enter Tryz.func42, Tryz.ntmps42
      go_wp2_with fail
      refine c1.mono ?_
      rintro e w1 ⟨rfl, rfl⟩
      go_wp2_with fail
      refine c2.mono ?_
      rintro e w2 ⟨rfl, rfl⟩
      go_wp2_with fail
      go_ret
      exact ⟨rfl, rfl⟩
set_option maxHeartbeats 4000000 in
set_option maxRecDepth 100000 in
theorem or_any (x y : Int) (b : Nat) (w : World) (h0 : w.cell? ⟨b, 0, none⟩ = some (.int .i64 x)) (h1 : w.cell? ⟨b, 1, none⟩ = some (.int .i64 y)) :
    Calls Tryz.prog 41 #[.slice (some ⟨b, 0, none⟩) 2 2] w fun e w' => e = .returned (.int .i64 (orI x y)) ∧ w' = w := by
  have hd : orI x y = if x = 0 then y else x := rfl
  by_cases hx : x = 0
  · rw [if_pos hx] at hd
    by_cases hy : y = 0
    · rw [hd]
      subst hx hy
      clear hd
      go_enter Tryz.func41, Tryz.ntmps41
      go_wp2_with fail
      go_loop [8] (fun v => ∃ i : Nat, v = .int .i64 i ∧ i ≤ 2) (fun v => 2 - (intOf v).toNat)
      case atStart => exact ⟨0, rfl, by omega⟩
      case round =>
        obtain ⟨i, rfl, hi⟩ := hrel
        have hc : i = 0 ∨ i = 1 ∨ i = 2 := by omega
        rcases hc with rfl | rfl | rfl
        · go_wp2_with fail
          go_round
          case rel => exact ⟨1, rfl, by omega⟩
          case measure => simp [intOf]
        · go_wp2_with fail
          go_round
          case rel => exact ⟨2, rfl, by omega⟩
          case measure => simp [intOf]
        · go_wp2_with fail
          go_ret
          exact ⟨rfl, rfl⟩
    · rw [hd]
      subst hx
      have hyz : (y == 0) = false := by simpa using hy
      clear hd hy
      go_enter Tryz.func41, Tryz.ntmps41
      go_wp2_with fail
      go_loop [8] (fun v => ∃ i : Nat, v = .int .i64 i ∧ i ≤ 1) (fun v => 2 - (intOf v).toNat)
      case atStart => exact ⟨0, rfl, by omega⟩
      case round =>
        obtain ⟨i, rfl, hi⟩ := hrel
        have hc : i = 0 ∨ i = 1 := by omega
        rcases hc with rfl | rfl
        · go_wp2_with fail
          go_round
          case rel => exact ⟨1, rfl, by omega⟩
          case measure => simp [intOf]
        · go_wp2_with fail
          go_ret
          exact ⟨rfl, rfl⟩
  · rw [if_neg hx] at hd
    rw [hd]
    have hxz : (x == 0) = false := by simpa using hx
    clear hd hx
    go_enter Tryz.func41, Tryz.ntmps41
    go_wp2_with fail
    go_loop [8] (fun v => ∃ i : Nat, v = .int .i64 i ∧ i ≤ 0) (fun v => 2 - (intOf v).toNat)
    case atStart => exact ⟨0, rfl, by omega⟩
    case round =>
      obtain ⟨i, rfl, hi⟩ := hrel
      obtain rfl : i = 0 := by omega
      go_wp2_with fail
      go_ret
      exact ⟨rfl, rfl⟩
end Go.Proofs.YtgiaohccebolpaaGreatDoor
namespace Go.Proofs.YtgiaohccebolpaaGreatDoor
open Go Go.RowKit
open Go.Lib hiding intOf
set_option linter.unusedVariables false
theorem keep4c {b b' : Nat} {w w' w'' : World} {v0 v1 u0 u1 : Value}
    (h : w'.cell? ⟨b, 0, none⟩ = some v0 ∧ w'.cell? ⟨b, 1, none⟩ = some v1 ∧ w'.cell? ⟨b', 0, none⟩ = some u0 ∧ w'.cell? ⟨b', 1, none⟩ = some u1 ∧ Below w.heap.size w w') (hb : Below w'.heap.size w' w'') :
    w''.cell? ⟨b, 0, none⟩ = some v0 ∧ w''.cell? ⟨b, 1, none⟩ = some v1 ∧ w''.cell? ⟨b', 0, none⟩ = some u0 ∧ w''.cell? ⟨b', 1, none⟩ = some u1 ∧ Below w.heap.size w w'' := by
  obtain ⟨k0, k1, m0, m1, hw⟩ := h
  exact ⟨(hb.cell (cell_lt k0)).trans k0, (hb.cell (cell_lt k1)).trans k1, (hb.cell (cell_lt m0)).trans m0, (hb.cell (cell_lt m1)).trans m1, below_grow hw hw.size hb⟩
def lessI (i1 o1 i2 o2 : Int) : Bool := decide (orI (cmpI i1 i2) (cmpI o1 o2) < 0)
set_option maxHeartbeats 4000000 in
set_option maxRecDepth 100000 in
theorem less_any (id1 in1 ou1 id2 in2 ou2 : Int) (r1 s1 r2 s2 : ByteArray) (k1 k2 : Int) (v1 v2 : Value) (a1 a2 : Option Addr) (n1 c1 n2 c2 : Nat) (hv1 : v1 = .slice a1 n1 c1) (hv2 : v2 = .slice a2 n2 c2) (w : World) :
    Calls Tryz.prog 46 #[evV id1 in1 ou1 r1 k1 s1 v1, evV id2 in2 ou2 r2 k2 s2 v2] w fun e w' => e = .returned (.bool (lessI in1 id1 in2 id2)) ∧ Below w.heap.size w w' := by
  subst hv1 hv2
  have hd : lessI in1 id1 in2 id2 = decide (orI (cmpI in1 in2) (cmpI id1 id2) < 0) := rfl
  rw [hd]
  have cC := fun w' => cmp_any in1 in2 w'
  have cD := fun w' => cmp_any id1 id2 w'
  have cO := fun b w' h0 h1 => or_any (cmpI in1 in2) (cmpI id1 id2) b w' h0 h1
  generalize cmpI in1 in2 = C at *
  generalize cmpI id1 id2 = D at *
  generalize orI C D = O at *
  clear hd
  go_enter Tryz.func46, Tryz.ntmps46
  go_wp2_with fail
  refine world_as (fun W => Below w.heap.size w W ∧ W.cell? ⟨w.heap.size, 0, none⟩ = some (.int .i64 id1) ∧ W.cell? ⟨w.heap.size, 1, none⟩ = some (.int .i64 in1) ∧ W.cell? ⟨w.heap.size + 1, 0, none⟩ = some (.int .i64 id2) ∧ W.cell? ⟨w.heap.size + 1, 1, none⟩ = some (.int .i64 in2)) ⟨(below1 _ (Nat.le_refl _)).alloc (by simp) _, (blk7 (heap_alloc2_old w _ _)).1, (blk7 (heap_alloc2_old w _ _)).2.1, (blk7 (heap_alloc2_new w _ _)).1, (blk7 (heap_alloc2_new w _ _)).2.1⟩ ?_
  rintro W ⟨hbW, c0, c1', d0, d1⟩
  have hbd : Below w.heap.size w W.drew := hbW.drew
  go_region_held3 (fun w' => w'.cell? ⟨w.heap.size, 0, none⟩ = some (.int .i64 id1) ∧ w'.cell? ⟨w.heap.size, 1, none⟩ = some (.int .i64 in1) ∧ w'.cell? ⟨w.heap.size + 1, 0, none⟩ = some (.int .i64 id2) ∧ w'.cell? ⟨w.heap.size + 1, 1, none⟩ = some (.int .i64 in2) ∧ Below w.heap.size w w')
    (first | exact ⟨c0, c1', d0, d1, hbd⟩ | assumption | exact keep4c (by assumption) (below1 _ (Nat.le_refl _)))
    (first | ((go_at_call 42; first | ((with_reducible refine (cC _).mono ?_); rintro e w1 ⟨rfl, rfl⟩) | ((with_reducible refine (cD _).mono ?_); rintro e w1 ⟨rfl, rfl⟩))) | ((go_at_call 41; refine (cO _ _ (World.cell?_alloc_at _ _ _ _ rfl) (World.cell?_alloc_at _ _ _ _ rfl)).mono ?_; rintro e w4 ⟨rfl, rfl⟩)))
  rename_i hH
  have hbb := hH.2.2.2.2
  clear hH
  go_wp2_with fail
  go_ret
  exact ⟨rfl, hbb⟩
set_option maxHeartbeats 4000000 in
set_option maxRecDepth 100000 in
theorem sortf_any (id1 in1 ou1 id2 in2 ou2 : Int) (r1 s1 r2 s2 : ByteArray) (k1 k2 : Int) (v1 v2 : Value) (a1 a2 : Option Addr) (n1 c1 n2 c2 : Nat) (hv1 : v1 = .slice a1 n1 c1) (hv2 : v2 = .slice a2 n2 c2) (w : World) :
    Calls Tryz.prog 40 #[evV id1 in1 ou1 r1 k1 s1 v1, evV id2 in2 ou2 r2 k2 s2 v2] w fun e w' => e = .returned (.int .i64 (orI (cmpI in1 in2) (cmpI id1 id2))) ∧ Below w.heap.size w w' := by
  subst hv1 hv2
  have cC := fun w' => cmp_any in1 in2 w'
  have cD := fun w' => cmp_any id1 id2 w'
  have cO := fun b w' h0 h1 => or_any (cmpI in1 in2) (cmpI id1 id2) b w' h0 h1
  generalize cmpI in1 in2 = C at *
  generalize cmpI id1 id2 = D at *
  generalize orI C D = O at *
  go_enter Tryz.func40, Tryz.ntmps40
  go_wp2_with fail
  refine world_as (fun W => Below w.heap.size w W ∧ W.cell? ⟨w.heap.size, 0, none⟩ = some (.int .i64 id1) ∧ W.cell? ⟨w.heap.size, 1, none⟩ = some (.int .i64 in1) ∧ W.cell? ⟨w.heap.size + 1, 0, none⟩ = some (.int .i64 id2) ∧ W.cell? ⟨w.heap.size + 1, 1, none⟩ = some (.int .i64 in2)) ⟨(below1 _ (Nat.le_refl _)).alloc (by simp) _, (blk7 (heap_alloc2_old w _ _)).1, (blk7 (heap_alloc2_old w _ _)).2.1, (blk7 (heap_alloc2_new w _ _)).1, (blk7 (heap_alloc2_new w _ _)).2.1⟩ ?_
  rintro W ⟨hbW, c0, c1', d0, d1⟩
  have hbd : Below w.heap.size w W.drew := hbW.drew
  go_region_held3 (fun w' => w'.cell? ⟨w.heap.size, 0, none⟩ = some (.int .i64 id1) ∧ w'.cell? ⟨w.heap.size, 1, none⟩ = some (.int .i64 in1) ∧ w'.cell? ⟨w.heap.size + 1, 0, none⟩ = some (.int .i64 id2) ∧ w'.cell? ⟨w.heap.size + 1, 1, none⟩ = some (.int .i64 in2) ∧ Below w.heap.size w w')
    (first | exact ⟨c0, c1', d0, d1, hbd⟩ | assumption | exact keep4c (by assumption) (below1 _ (Nat.le_refl _)))
    (first | ((go_at_call 42; first | ((with_reducible refine (cC _).mono ?_); rintro e w1 ⟨rfl, rfl⟩) | ((with_reducible refine (cD _).mono ?_); rintro e w1 ⟨rfl, rfl⟩))) | ((go_at_call 41; refine (cO _ _ (World.cell?_alloc_at _ _ _ _ rfl) (World.cell?_alloc_at _ _ _ _ rfl)).mono ?_; rintro e w4 ⟨rfl, rfl⟩)))
  rename_i hH
  have hbb := hH.2.2.2.2
  clear hH
  go_wp2_with fail
  go_ret
  exact ⟨rfl, hbb⟩
end Go.Proofs.YtgiaohccebolpaaGreatDoor
namespace Go.Proofs.YtgiaohccebolpaaGreatDoor
open Go Go.RowKit
open Go.Lib hiding intOf
set_option linter.unusedVariables false
/-! ### the sort of events that are in order -/
def InOrder (L : List Ev) : Prop := ∀ i, 0 < i → i < L.length → ltE (L.getD (i - 1) default) (L.getD i default) = true
def cmpE (x y : Ev) : Int := orI (cmpI x.inn y.inn) (cmpI x.id y.id)
theorem cmp_swap {x y : Ev} (h : ltE x y = true) : 0 ≤ orI (cmpI y.inn x.inn) (cmpI y.id x.id) := by
  unfold ltE orI at h
  rw [decide_eq_true_eq] at h
  unfold orI cmpI at *
  rcases Int.lt_trichotomy x.inn y.inn with h1 | h1 | h1
  · simp [h1, Int.not_lt.2 (Int.le_of_lt h1)]
  · rw [h1] at h ⊢
    rcases Int.lt_trichotomy x.id y.id with h2 | h2 | h2
    · simp [h2, Int.not_lt.2 (Int.le_of_lt h2)]
    · simp [h2] at h
    · simp [h2, Int.not_lt.2 (Int.le_of_lt h2)] at h
  · simp [h1, Int.not_lt.2 (Int.le_of_lt h1)] at h
set_option maxHeartbeats 2000000 in
set_option maxRecDepth 100000 in
theorem ins_any (v : Value) (L : List Ev) (w : World) (hV : EvsR w v L) (hn : L.length ≤ 1048576) (ho : InOrder L) :
    Calls Tryz.prog 103 #[v, .int .i64 0, .int .i64 (L.length : Int), .func (.func 40) #[] #[]] w fun e w' => e = .returned (.tuple #[]) ∧ Below w.heap.size w w' := by
  have HV := Lib.hid hV
  have HO := Lib.hid ho
  obtain ⟨a, c, rfl⟩ := hV.len
  clear hV ho
  go_enter Tryz.func103, Tryz.ntmps103
  go_wp2_with fail
  go_loopw [8] (fun v wx => ∃ i : Nat, v = .int .i64 i ∧ 1 ≤ i ∧ Hid (Below w.heap.size w wx)) (fun v _ => L.length - (intOf v).toNat)
  case atStart => exact ⟨1, rfl, by omega, Lib.hid (Below.refl _ _)⟩
  case round =>
    obtain ⟨i, rfl, hi1, HB⟩ := hrel
    by_cases hlt : i < L.length
    · have hiz : (i : Int) < (L.length : Int) := by omega
      have hi0 : (0 : Int) < (i : Int) := by omega
      go_wp2_with fail
      go_loopw [9] (fun v wx => v = .int .i64 i ∧ Hid (Below w.heap.size w wx)) (fun _ _ => 0)
      case atStart => exact ⟨rfl, HB⟩
      case round =>
        clear HB
        obtain ⟨rfl, HB⟩ := hrel
        have hVr := HV.out.below HB.out
        obtain ⟨g, off, rfl, hg⟩ := hVr.addr (by omega)
        obtain ⟨v1, hR1, k0, k1, k2, k3, k4, k5, k6⟩ := hVr.at rfl i hlt
        obtain ⟨v2, hR2, m0, m1, m2, m3, m4, m5, m6⟩ := hVr.at rfl (i - 1) (by omega)
        have hng := cmp_swap (HO.out i (by omega) hlt)
        obtain ⟨a1, c1, rfl⟩ := hR1.len
        obtain ⟨a2, c2, rfl⟩ := hR2.len
        clear hR1 hR2
        generalize L.getD i default = X at *
        generalize L.getD (i - 1) default = Y at *
        have cS := fun w => sortf_any X.id X.inn X.out Y.id Y.inn Y.out (ba X.reg) (ba X.spk) (ba Y.reg) (ba Y.spk) (X.kind : Int) (Y.kind : Int) (.slice a1 X.rows.length c1) (.slice a2 Y.rows.length c2) a1 a2 X.rows.length c1 Y.rows.length c2 rfl rfl w
        have htn : ((i : Int) - 1).toNat = i - 1 := by omega
        have hwr : IntKind.i64.wrap ((i : Int) - 1) = (i : Int) - 1 := IntWalk.i64_in _ (by omega)
        have hdk : (0 : Int) ≤ (i : Int) - 1 := by omega
        have hdm : (i : Int) - 1 < (L.length : Int) := by omega
        have hdz : decide (0 < i) = true := by simp; omega
        have hdi1 : (1 : Int) ≤ (i : Int) := by omega
        have htnw := Lib.hid (And.intro htn hwr)
        clear htn hwr hVr
        go_wp2_with fail
        obtain ⟨htn, hwr⟩ := htnw.out
        go_still_tail 14, (by kernel_rfl)
        clear hwr htn
        change wpList _ _ _ _ _ wr.drew
        go_wp2_with fail
        refine (cS _).mono ?_
        rintro e w1 ⟨rfl, hb1⟩
        have HB1 : Hid (Below w.heap.size w w1) := Lib.hid (HB.out.trans ((show Below wr.heap.size wr w1 from ⟨hb1.os, hb1.tape, hb1.output, hb1.size, hb1.block⟩).mono HB.out.size))
        clear hb1 k0 k1 k2 k3 k4 k5 k6 m0 m1 m2 m3 m4 m5 m6
        go_wp2_with fail
        go_roundw
        case rel => exact ⟨i + 1, by go_num, by omega, HB1⟩
        case measure => simp [intOf]; omega
    · have hiz : ¬ (i : Int) < (L.length : Int) := by omega
      go_wp2_with fail
      go_end0
      exact ⟨rfl, HB.out⟩
end Go.Proofs.YtgiaohccebolpaaGreatDoor
namespace Go.Proofs.YtgiaohccebolpaaGreatDoor
open Go Go.RowKit
open Go.Lib hiding intOf
set_option linter.unusedVariables false
set_option maxHeartbeats 2000000 in
set_option maxRecDepth 100000 in
theorem stable_any (v : Value) (L : List Ev) (w : World) (hV : EvsR w v L) (hn : L.length < 20) (ho : InOrder L) :
    Calls Tryz.prog 73 #[v, .int .i64 (L.length : Int), .func (.func 40) #[] #[]] w fun e w' => e = .returned (.tuple #[]) ∧ Below w.heap.size w w' := by
  have cI := ins_any v L w hV (by omega) ho
  have hnz : ¬ (20 : Int) ≤ (L.length : Int) := by omega
  have hnz2 : ¬ (20 : Int) < (L.length : Int) := by omega
  obtain ⟨a, c, rfl⟩ := hV.len
  clear hV ho
  go_enter Tryz.func73, Tryz.ntmps73
  go_wp2_with fail
  go_loopw [7, 8] (fun v u wx => v = .int .i64 0 ∧ u = .int .i64 20 ∧ wx = w) (fun _ _ _ => 0)
  case atStart => exact ⟨rfl, rfl, rfl⟩
  case round =>
    obtain ⟨rfl, rfl, rfl⟩ := hrel
    go_wp2_with fail
    refine cI.mono ?_
    rintro e w1 ⟨rfl, hb⟩
    have HB := Lib.hid hb
    clear hb
    go_wp2_with fail
    go_loopw [6] (fun v wx => v = .int .i64 20 ∧ wx = w1) (fun _ _ => 0)
    case atStart => exact ⟨rfl, rfl⟩
    case round =>
      obtain ⟨rfl, rfl⟩ := hrel
      go_wp2_with fail
      go_end0
      exact ⟨rfl, HB.out⟩
set_option maxHeartbeats 2000000 in
set_option maxRecDepth 100000 in
theorem sortst_any (v : Value) (L : List Ev) (w : World) (hV : EvsR w v L) (hn : L.length < 20) (ho : InOrder L) :
    Calls Tryz.prog 39 #[v, .func (.func 40) #[] #[]] w fun e w' => e = .returned (.tuple #[]) ∧ Below w.heap.size w w' := by
  have cI := stable_any v L w hV hn ho
  obtain ⟨a, c, rfl⟩ := hV.len
  clear hV ho
  go_enter Tryz.func39, Tryz.ntmps39
  go_wp2_with fail
  refine cI.mono ?_
  rintro e w1 ⟨rfl, hb⟩
  go_wp2_with fail
  go_end0
  exact ⟨rfl, hb⟩
theorem info63 : (Tryz.prog.info? 63).map (fun i => (i.zero, i.size, i.bytes)) = some (some (.agg #[.int .i64 0, .int .i64 0, .int .i64 0, .string ⟨#[]⟩, .int .u8 0, .string ⟨#[]⟩, .slice none 0 0]), 7, 88) := by kernel_rfl
/-- Events whose rows are not too many. -/
def evsFit (L : List Ev) : Prop := ∀ e ∈ L, e.rows.length ≤ 1000 ∧ ∀ r ∈ e.rows, r.length ≤ 1048576
set_option maxHeartbeats 2000000 in
set_option maxRecDepth 100000 in
theorem Sort_any (v : Value) (L : List Ev) (w : World) (hV : EvsR w v L) (hn : L.length < 20) (ho : InOrder L) (hf : evsFit L) :
    Calls Tryz.prog 16 #[v] w fun e w' => ∃ v', e = .returned v' ∧ EvsO w' w.heap.size v' L ∧ Below w.heap.size w w' := by
  obtain ⟨i0, hi, iz0, iz1, iz2⟩ := info_parts info63
  have HV := Lib.hid hV
  obtain ⟨a, c, rfl⟩ := hV.len
  have HF : Hid (∀ i, i < L.length → (L.getD i default).rows.length ≤ 1000 ∧ ∀ r ∈ (L.getD i default).rows, r.length ≤ 1048576) := Lib.hid (fun i hi => by rw [getD_of hi]; exact hf _ (List.getElem_mem hi))
  have HS := Lib.hid (take_succ L)
  clear hV hf
  go_enter Tryz.func16, Tryz.ntmps16
  go_wp2_with fail
  go_loopw [8, 3] (fun v u wx => ∃ i : Nat, v = .int .i64 i ∧ i ≤ L.length ∧ Hid (EvsO wx w.heap.size u (L.take i)) ∧ Hid (Below w.heap.size w wx)) (fun v _ _ => L.length - (intOf v).toNat)
  case atStart => exact ⟨0, rfl, Nat.zero_le _, Lib.hid (EvsO.nil _ _), Lib.hid (Below.refl _ _)⟩
  case round =>
    obtain ⟨i, rfl, hil, HO, HB⟩ := hrel
    have hsz := HB.out.size
    by_cases hlt : i < L.length
    · have hiz : (i : Int) < (L.length : Int) := by omega
      have hVr := HV.out.below HB.out
      obtain ⟨g, off, rfl, hg⟩ := hVr.addr (by omega)
      obtain ⟨v1, hR1, k0, k1, k2, k3, k4, k5, k6⟩ := hVr.at rfl i hlt
      obtain ⟨f1, f2⟩ := HF.out i hlt
      have hts := HS.out i hlt
      have hR1' := hR1
      obtain ⟨a1, c1, hv1⟩ := hR1.len
      clear hVr
      generalize L.getD i default = X at *
      obtain ⟨y0, y1, y2, y3, y4, y5, y6⟩ := X
      dsimp only at *
      subst hv1
      have cC := fun w' h => eclone_any y0 y1 y2 (ba y3) (ba y5) (y4 : Int) (.slice a1 y6.length c1) y6 w' h f1 f2
      have HR := Lib.hid hR1'
      have HTS := Lib.hid hts
      clear hR1 hR1' hts f1 f2
      go_wp2_with fail
      refine (cC _ (HR.out.below (below1 _ (Nat.le_refl _)))).mono ?_
      rintro e w2 ⟨v2, rfl, hro, hb2⟩
      obtain ⟨a2, c2, rfl⟩ := hro.len
      have hbr := (below1 (.cells #[.int .i64 y0, .int .i64 y1, .int .i64 y2, .string (ba y3), .int .u8 (y4 : Int), .string (ba y5), .slice a1 y6.length c1] 63) (Nat.le_refl wr.heap.size)).trans (hb2.mono (by simp))
      obtain ⟨p, hp, how, hpr⟩ := HO.out.stays hbr
      have hli : (L.take i).length = i := by rw [List.length_take]; omega
      rw [hli] at how
      have HB2 := Lib.hid (below_grow HB.out hsz hbr)
      have hszn := HB2.out.size
      clear k0 k1 k2 k3 k4 k5 k6 hb2
      obtain ⟨a3, c3, rfl⟩ := own_len how
      go_wp2_with (at_builtin; refine wpList_append_row rfl _ _ 24 rfl w.heap.size 63 i0 _ 7 88 Tryz.underlying24 hi iz0 iz1 iz2 rfl (by decide) _ _ _ rfl (how.alloc _) _ 1 _ rfl (lit_row _ _ _ rfl rfl) (one_lit rfl) ?c3 ?c4 ?c5 ?_)
      case c3 => unfold maxLen; omega
      case c4 => omega
      case c5 => simp; omega
      intro v' w3 hown' hgrow _
      have hR2 := hro.toR
      have hE := EvsO.push (e := ⟨y0, y1, y2, y3, y4, y5, y6⟩) hp (by rw [hli]; exact how.alloc _) (fun x hx => (hpr x hx).stays (below1 _ (Nat.le_refl _))) ((hro.low (Nat.zero_le _)).stays (below1 _ (Nat.le_refl _))) (by rw [hli]; exact hown') hgrow
      rw [← HTS.out] at hE
      have HE := Lib.hid hE
      have HB3 := Lib.hid (app_step (how.alloc _) (HB2.out.alloc hszn _) (by simp; omega) hgrow)
      clear hE hown' hgrow how hro
      go_wp2_with fail
      go_roundw
      case rel => exact ⟨i + 1, by go_num, by omega, HE, HB3⟩
      case measure => simp [intOf]; omega
    · obtain rfl : i = L.length := by omega
      have hiz : ¬ (L.length : Int) < (L.length : Int) := by omega
      have hE := HO.out
      rw [List.take_length] at hE
      obtain ⟨a3, c3, rfl⟩ := hE.len
      have cS := sortst_any (.slice a3 L.length c3) L wr hE.toR hn ho
      have HE := Lib.hid hE
      clear hE HO
      go_wp2_with fail
      refine cS.mono ?_
      rintro e w2 ⟨rfl, hb⟩
      go_wp2_with fail
      go_ret
      exact ⟨_, rfl, HE.out.stays hb, below_grow HB.out hsz hb⟩
end Go.Proofs.YtgiaohccebolpaaGreatDoor
namespace Go.Proofs.YtgiaohccebolpaaGreatDoor
open Go Go.RowKit
open Go.Lib hiding intOf
set_option linter.unusedVariables false
/-! ### a document's header -/
def rateE (r : Nat) (drop : Bool) : Int := if okRate r = false then 13 else if drop = true ∧ dropOf r = false then 13 else 0
set_option maxHeartbeats 4000000 in
set_option maxRecDepth 100000 in
theorem rate_any (r : Nat) (hr : r < 256) (drop : Bool) (w : World) : Calls Tryz.prog 78 #[.int .u8 (r : Int), .bool drop] w fun e w' => e = .returned (.int .i64 (rateE r drop)) ∧ Below w.heap.size w w' := by
  have cV := fun w => valid_rate r hr w
  have cD := fun w => candrop_any r hr w
  have hd : rateE r drop = if okRate r = false then 13 else if drop = true ∧ dropOf r = false then 13 else 0 := rfl
  rw [hd]
  clear hd
  generalize okRate r = O at *
  generalize dropOf r = D at *
  cases O
  · rw [if_pos rfl]
    clear cD
    go_enter Tryz.func78, Tryz.ntmps78
    go_wp2_with fail
    refine (cV _).mono ?_
    rintro e w1 ⟨rfl, hb⟩
    go_wp2_with fail
    go_ret
    exact ⟨rfl, hb⟩
  · rw [if_neg (by simp)]
    cases drop
    · rw [if_neg (by simp)]
      clear cD
      go_enter Tryz.func78, Tryz.ntmps78
      go_wp2_with fail
      refine (cV _).mono ?_
      rintro e w1 ⟨rfl, hb⟩
      go_wp2_with fail
      go_ret
      exact ⟨rfl, hb⟩
    · cases D
      · rw [if_pos ⟨rfl, rfl⟩]
        go_enter Tryz.func78, Tryz.ntmps78
        go_wp2_with fail
        refine (cV _).mono ?_
        rintro e w1 ⟨rfl, hb⟩
        go_wp2_with fail
        refine (cD _).mono ?_
        rintro e w2 ⟨rfl, hb2⟩
        go_wp2_with fail
        go_ret
        exact ⟨rfl, below_trans hb hb2⟩
      · rw [if_neg (by simp)]
        go_enter Tryz.func78, Tryz.ntmps78
        go_wp2_with fail
        refine (cV _).mono ?_
        rintro e w1 ⟨rfl, hb⟩
        go_wp2_with fail
        refine (cD _).mono ?_
        rintro e w2 ⟨rfl, hb2⟩
        go_wp2_with fail
        go_ret
        exact ⟨rfl, below_trans hb hb2⟩
def lastE (last : Int) : Int := if last < 0 then 2 else if 1099511627776 < last then 2 else 0
def headE (title lang : List UInt8) (rate : Nat) (drop : Bool) (last : Int) : Int :=
  if validC title = false then 10 else if 400 < title.length then 9 else if lang ≠ [] ∧ nameOk lang = false then 5 else if rateE rate drop = 0 then lastE last else rateE rate drop
set_option maxHeartbeats 8000000 in
set_option maxRecDepth 100000 in
theorem header_any (title lang : List UInt8) (rate : Nat) (drop : Bool) (last : Int) (ag ae ac : Option Addr) (ng ne nc cg ce cc : Nat) (ht : title.length ≤ 1048576) (hl : lang.length ≤ 1048576) (hr : rate < 256) (w : World) (hE : Env w) :
    Calls Tryz.prog 44 #[dcV (ba title) (ba lang) (rate : Int) drop last (.slice ag ng cg) (.slice ae ne ce) (.slice ac nc cc)] w fun e w' => e = .returned (.int .i64 (headE title lang rate drop last)) ∧ Below w.heap.size w w' := by
  have hq : headE title lang rate drop last = if validC title = false then 10 else if 400 < title.length then 9 else if lang ≠ [] ∧ nameOk lang = false then 5 else if rateE rate drop = 0 then lastE last else rateE rate drop := rfl
  have cV := fun w' hE => valid_any (ba title) w' (by rw [ba_size]; omega) hE
  have cN := fun w' => name_any (ba lang) w' (by rw [ba_size]; omega)
  have cR := fun w' => rate_any rate hr drop w'
  have hem := ba_empty lang
  have hsz : (ba title).size = title.length := ba_size title
  rw [ba_data] at cV cN
  have hEb := hE.below (below1 (.cells #[.string (ba title), .string (ba lang), .int .u8 (rate : Int), .bool drop, .int .i64 last, .slice ag ng cg, .slice ae ne ce, .slice ac nc cc] 27) (Nat.le_refl _))
  generalize headE title lang rate drop last = Z at *
  generalize validC title = V at *
  generalize nameOk lang = N at *
  generalize rateE rate drop = RE at *
  have HQ := Lib.hid hq
  have HS := Lib.hid hsz
  clear hq hE hr
  have hB := heap_alloc_new w (.cells #[.string (ba title), .string (ba lang), .int .u8 (rate : Int), .bool drop, .int .i64 last, .slice ag ng cg, .slice ae ne ce, .slice ac nc cc] 27)
  have HB := Lib.hid hB
  have hbw := below1 (B := w.heap.size) (.cells #[.string (ba title), .string (ba lang), .int .u8 (rate : Int), .bool drop, .int .i64 last, .slice ag ng cg, .slice ae ne ce, .slice ac nc cc] 27) (Nat.le_refl _)
  have HBW := Lib.hid hbw
  clear hB hbw hsz
  go_enter Tryz.func44, Tryz.ntmps44
  go_wp2_with fail
  refine (cV _ hEb).mono ?_
  rintro e w1 ⟨rfl, hb1⟩
  have HB1 := Lib.hid (blk_stay HB.out hb1)
  have HW1 := Lib.hid (below_grow HBW.out HBW.out.size hb1)
  clear hb1 HB HBW cV hEb
  obtain ⟨c0, c1, c2, c3, c4, c5, c6, c7, cf, hlt0⟩ := blk8 HB1.out
  cases V
  · have HZ : Hid (Z = 10) := Lib.hid (by rw [HQ.out]; rfl)
    clear HQ
    go_wp2_with fail
    go_ret
    exact ⟨ret_int HZ.out.symm, HW1.out⟩
  by_cases h4 : 400 < title.length
  · have HZ : Hid (Z = 9) := Lib.hid (by rw [HQ.out, if_neg (by simp), if_pos h4])
    have h4z : (400 : Int) < ((ba title).size : Int) := by rw [HS.out]; omega
    clear HQ h4
    go_wp2_with fail
    go_ret
    exact ⟨ret_int HZ.out.symm, HW1.out⟩
  have HQ2 : Hid (Z = if lang ≠ [] ∧ N = false then 5 else if RE = 0 then lastE last else RE) := Lib.hid (by rw [HQ.out, if_neg (by simp), if_neg h4])
  have h4z : ¬ (400 : Int) < ((ba title).size : Int) := by rw [HS.out]; omega
  clear HQ h4
  by_cases hla : lang = []
  · have hem2 : (ba lang).toList.isEmpty = true := by rw [hem]; simpa using hla
    have HQ3 : Hid (Z = if RE = 0 then lastE last else RE) := Lib.hid (by rw [HQ2.out, if_neg (by simp [hla])])
    clear hem HQ2 hla
    go_wp2_with fail
    refine (cR _).mono ?_
    rintro e w2 ⟨rfl, hb2⟩
    have HB2 := Lib.hid (blk_stay HB1.out hb2)
    have HW2 := Lib.hid (below_grow HW1.out HW1.out.size hb2)
    clear hb2 HB1 HW1 c0 c1 c2 c3 c4 c5 c6 c7 cf hlt0
    obtain ⟨c0, c1, c2, c3, c4, c5, c6, c7, cf, hlt0⟩ := blk8 HB2.out
    by_cases hRE : RE = 0
    · subst hRE
      have HQ4 : Hid (Z = lastE last) := Lib.hid (by rw [HQ3.out, if_pos rfl])
      clear HQ3
      by_cases l0 : last < 0
      · have HZ : Hid (Z = 2) := Lib.hid (by rw [HQ4.out]; unfold lastE; rw [if_pos l0])
        clear HQ4
        go_wp2_with fail
        go_ret
        exact ⟨ret_int HZ.out.symm, HW2.out⟩
      by_cases l1 : 1099511627776 < last
      · have HZ : Hid (Z = 2) := Lib.hid (by rw [HQ4.out]; unfold lastE; rw [if_neg l0, if_pos l1])
        clear HQ4
        go_wp2_with fail
        go_ret
        exact ⟨ret_int HZ.out.symm, HW2.out⟩
      have HZ : Hid (Z = 0) := Lib.hid (by rw [HQ4.out]; unfold lastE; rw [if_neg l0, if_neg l1])
      clear HQ4
      go_wp2_with fail
      go_ret
      exact ⟨ret_int HZ.out.symm, HW2.out⟩
    · have HZ : Hid (Z = RE) := Lib.hid (by rw [HQ3.out, if_neg hRE])
      have hREz : (RE == 0) = false := by simpa using hRE
      clear HQ3 hRE
      go_wp2_with fail
      go_ret
      exact ⟨ret_int HZ.out.symm, HW2.out⟩
  have hem2 : (ba lang).toList.isEmpty = false := by rw [hem]; simpa using hla
  clear hem
  cases N
  · have HZ : Hid (Z = 5) := Lib.hid (by rw [HQ2.out, if_pos ⟨hla, rfl⟩])
    clear HQ2 hla
    go_wp2_with fail
    refine (cN _).mono ?_
    rintro e w2 ⟨rfl, rfl⟩
    go_wp2_with fail
    go_ret
    exact ⟨ret_int HZ.out.symm, HW1.out⟩
  have HQ3 : Hid (Z = if RE = 0 then lastE last else RE) := Lib.hid (by rw [HQ2.out, if_neg (by simp)])
  clear HQ2 hla
  go_wp2_with fail
  refine (cN _).mono ?_
  rintro e w2 ⟨rfl, rfl⟩
  go_wp2_with fail
  refine (cR _).mono ?_
  rintro e w2 ⟨rfl, hb2⟩
  have HB2 := Lib.hid (blk_stay HB1.out hb2)
  have HW2 := Lib.hid (below_grow HW1.out HW1.out.size hb2)
  clear hb2 HB1 HW1 c0 c1 c2 c3 c4 c5 c6 c7 cf hlt0
  obtain ⟨c0, c1, c2, c3, c4, c5, c6, c7, cf, hlt0⟩ := blk8 HB2.out
  by_cases hRE : RE = 0
  · subst hRE
    have HQ4 : Hid (Z = lastE last) := Lib.hid (by rw [HQ3.out, if_pos rfl])
    clear HQ3
    by_cases l0 : last < 0
    · have HZ : Hid (Z = 2) := Lib.hid (by rw [HQ4.out]; unfold lastE; rw [if_pos l0])
      clear HQ4
      go_wp2_with fail
      go_ret
      exact ⟨ret_int HZ.out.symm, HW2.out⟩
    by_cases l1 : 1099511627776 < last
    · have HZ : Hid (Z = 2) := Lib.hid (by rw [HQ4.out]; unfold lastE; rw [if_neg l0, if_pos l1])
      clear HQ4
      go_wp2_with fail
      go_ret
      exact ⟨ret_int HZ.out.symm, HW2.out⟩
    have HZ : Hid (Z = 0) := Lib.hid (by rw [HQ4.out]; unfold lastE; rw [if_neg l0, if_neg l1])
    clear HQ4
    go_wp2_with fail
    go_ret
    exact ⟨ret_int HZ.out.symm, HW2.out⟩
  · have HZ : Hid (Z = RE) := Lib.hid (by rw [HQ3.out, if_neg hRE])
    have hREz : (RE == 0) = false := by simpa using hRE
    clear HQ3 hRE
    go_wp2_with fail
    go_ret
    exact ⟨ret_int HZ.out.symm, HW2.out⟩
end Go.Proofs.YtgiaohccebolpaaGreatDoor
namespace Go.Proofs.YtgiaohccebolpaaGreatDoor
open Go Go.RowKit
open Go.Maps
open Go.Lib hiding intOf
set_option linter.unusedVariables false
/-! ### the map of the events' numbers -/
def idxI (ids : List Int) (k : Int) : Nat := if k ∈ ids then ids.idxOf k else 0
structure MapI (w : World) (b : Nat) (ids : List Int) : Prop where
  nd : ids.Nodup
  own : ∃ D : DataW Unit, w.ownsMap Tryz.prog 2 (plainElem Tryz.prog 3) b ids.length D ∧
    ∀ k : Int, has D (.int .i64 k) = decide (k ∈ ids) ∧ ∀ i : Nat, ids[i]? = some k → ∀ z, D.atKey (.int .i64 k) z = .lit (.int .i64 i)
theorem MapI.kept {w w' : World} {b : Nat} {ids : List Int} {r : Option Nat} (h : MapI w b ids) (hg : w.grownBy w' r) (hne : some b ≠ r) : MapI w' b ids := by
  obtain ⟨D, h1, h2⟩ := h.own
  exact ⟨h.nd, D, h1.kept hg hne, h2⟩
theorem grown_of {w w' : World} {r : Option Nat} (hb : Below w.heap.size w w') : w.grownBy w' r := ⟨hb.os, hb.tape, hb.output, hb.size, fun k hk _ => hb.block k hk⟩
theorem MapI.below {w w' : World} {b : Nat} {ids : List Int} (h : MapI w b ids) (hb : Below w.heap.size w w') : MapI w' b ids := h.kept (grown_of (r := none) hb) (by simp)
theorem MapI.lt {w : World} {b : Nat} {ids : List Int} (h : MapI w b ids) : b < w.heap.size := by
  obtain ⟨D, h1, _⟩ := h.own
  exact h1.lt
theorem MapI.made (w : World) : MapI (w.alloc (.map #[] 0)) w.heap.size [] := by
  refine ⟨List.nodup_nil, _, World.ownsMap_made _ _ _ _, fun k => ⟨rfl, fun i h => ?_⟩⟩
  simp at h
theorem lit_inj {a b : Int} (h : (DataW.lit (.int .i64 a) : DataW Unit) = .lit (.int .i64 b)) : a = b := by
  injection h with h
  injection h with _ h
theorem MapI.look {w : World} {b : Nat} {ids : List Int} (h : MapI w b ids) (k : Int) (hk : (Lit.int .i64 k).wf = true) :
    (Instr.lookup 104 (.map (some b)) (.int .i64 k) true).run Tryz.prog w = .ok (.tuple #[.int .i64 (idxI ids k : Int), .bool (decide (k ∈ ids))]) w := by
  obtain ⟨D, h1, h2⟩ := h.own
  obtain ⟨v, ps, hrun, hv⟩ := h1.look_ok (int_keyed Tryz.underlying2) Tryz.underlying104 (Tryz.zeroValue3 _) (plainElem_int Tryz.underlying3 (by decide : (Lit.int .i64 0).wf = true)) (keyOf_int_mk Tryz.underlying2 hk)
  obtain ⟨c, rfl, hc, hwc⟩ := plainElem_int_inv Tryz.underlying3 hv
  simp only [Prod.mk.injEq] at hc
  have hc := hc.1
  obtain ⟨e1, e2⟩ := h2 k
  rw [hrun, e1]
  have hcc : c = (idxI ids k : Int) := by
    unfold idxI
    by_cases hm : k ∈ ids
    · rw [if_pos hm]
      have hl := List.idxOf_lt_length_of_mem hm
      have hg : ids[ids.idxOf k]? = some k := by rw [List.getElem?_eq_getElem hl, List.getElem_idxOf hl]
      have h3 := e2 _ hg (.lit (.int .i64 0))
      exact lit_inj (hc.symm.trans h3)
    · rw [if_neg hm]
      have hno : has D (.int .i64 k) = false := by rw [e1]; simpa using hm
      have h3 := atKey_of_not_has hno (.lit (.int .i64 0))
      exact lit_inj (hc.symm.trans h3)
  rw [hcc]
theorem MapI.put {w : World} {b : Nat} {ids : List Int} (h : MapI w b ids) (k : Int) (hk : (Lit.int .i64 k).wf = true) (hn : k ∉ ids) (hl : ids.length ≤ 1048576) :
    ∃ w', (Instr.mapUpdate 104 (.map (some b)) (.int .i64 k) (.int .i64 (ids.length : Int))).run Tryz.prog w = .ok () w' ∧ MapI w' b (ids ++ [k]) ∧ w.grownBy w' (some b) := by
  obtain ⟨D, h1, h2⟩ := h.own
  have hw : (Lit.int .i64 (ids.length : Int)).wf = true := WalkArith.wf_i64 (by omega)
  obtain ⟨w', hrun, r1, r2⟩ := h1.update (int_keyed Tryz.underlying2) Tryz.underlying104 (by unfold maxLen; omega) (keyOf_int_mk Tryz.underlying2 hk) (plainElem_int Tryz.underlying3 hw)
  have hD : IsMap D := h1.isMap
  have hK : WideAt.IsKeyLit (.int .i64 k) := trivial
  refine ⟨w', hrun, ⟨?_, _, by rw [List.length_append]; exact r1, fun j => ?_⟩, r2⟩
  · rw [List.nodup_append]
    exact ⟨h.nd, by simp, fun a ha b hb e => by simp at hb; subst hb; subst e; exact hn ha⟩
  · obtain ⟨e1, e2⟩ := h2 j
    by_cases hj : j = k
    · subst hj
      refine ⟨by rw [has_put_same hD hK]; simp, fun i hi z => ?_⟩
      rw [atKey_put_same hD hK]
      have hil : ¬ i < ids.length := fun hlt => hn (List.mem_of_getElem? (by rw [List.getElem?_append_left hlt] at hi; exact hi))
      have : i = ids.length := by
        have := (List.getElem?_eq_some_iff.1 hi).1
        simp at this; omega
      rw [this]
    · have hne : Lit.int .i64 j ≠ Lit.int .i64 k := fun e => hj (by injection e)
      refine ⟨by rw [has_put_other hne, e1]; simp [hj], fun i hi z => ?_⟩
      rw [atKey_put_other hne]
      have hil : i < ids.length := by
        rcases Nat.lt_or_ge i ids.length with h' | h'
        · exact h'
        · exfalso
          rw [List.getElem?_append_right h'] at hi
          have := List.mem_of_getElem? hi
          simp at this
          exact hj this
      rw [List.getElem?_append_left hil] at hi
      exact e2 i hi z
end Go.Proofs.YtgiaohccebolpaaGreatDoor
namespace Go.Proofs.YtgiaohccebolpaaGreatDoor
open Go Go.RowKit
open Go.Maps
open Go.Lib hiding intOf
set_option linter.unusedVariables false
/-! ### the length of an event's text -/
def sumE (s : Int) : List Int → Int
  | [] => s
  | n :: t => if n < 0 then -1 else sumE (s + n) t
def evLen (rows : List Rw) : Int := sumE (max ((rows.length : Int) - 1) 0) (rows.map lenR)
theorem sumE_cons (s n : Int) (t : List Int) : sumE s (n :: t) = if n < 0 then -1 else sumE (s + n) t := rfl
theorem lenR_range (L : Rw) : -1 ≤ lenR L ∧ lenR L ≤ tot L := by
  have := lenFrom_range L 0 (by omega)
  unfold lenR; omega
theorem dropI_cons (l : List Int) (i : Nat) (h : i < l.length) : l.drop i = l.getD i 0 :: l.drop (i + 1) := by
  rw [List.drop_eq_getElem_cons h, getD_of h]
set_option maxHeartbeats 8000000 in
set_option maxRecDepth 100000 in
theorem elen_any (id inn out : Int) (reg spk : ByteArray) (kind : Int) (v : Value) (L : List Rw) (w : World) (hR : RowsR w v L) (hn : L.length ≤ 1000) (hf : ∀ x ∈ L, rowFit x) (hE : Env w) :
    Calls Tryz.prog 109 #[evV id inn out reg kind spk v] w fun e w' => e = .returned (.int .i64 (evLen L)) ∧ Below w.heap.size w w' := by
  obtain ⟨a, c, rfl⟩ := hR.len
  have hff : rowsFit L := fun x hx => ⟨(hf x hx).n, (hf x hx).t⟩
  have cL := fun w' h hE => lens_any id inn out reg spk kind (.slice a L.length c) L w' h (by omega) hff hE
  have hq : sumE (max ((L.length : Int) - 1) 0) ((L.map lenR).drop 0) = evLen L := by rw [List.drop_zero]; rfl
  generalize evLen L = Z at *
  have HQ := Lib.hid hq
  have HR := Lib.hid hR
  have HLL := Lib.hid (show (L.map lenR).length = L.length by simp)
  have HD := Lib.hid (dropI_cons (L.map lenR))
  have HX : Hid (∀ i, i < L.length → -1 ≤ (L.map lenR).getD i 0 ∧ (L.map lenR).getD i 0 ≤ 1048576) := Lib.hid (fun i hi => by
    rw [getD_of (by simpa using hi)]
    simp only [List.getElem_map]
    have h1 := lenR_range (L[i])
    have h2 := (hf _ (List.getElem_mem hi)).t
    omega)
  clear hq hR hff hf
  generalize L.map lenR = N at *
  go_enter Tryz.func109, Tryz.ntmps109
  go_wp2_with fail
  refine (cL _ (HR.out.below (below1 _ (Nat.le_refl _))) (hE.below (below1 _ (Nat.le_refl _)))).mono ?_
  rintro e w1 ⟨vl, rfl, hol, hb1⟩
  obtain ⟨al, cl, rfl⟩ := own_len hol
  have hRo := RowR.of_own hol
  have HO := Lib.hid hRo
  have HB1 := Lib.hid (below_grow (below1 (B := w.heap.size) (.cells #[.int .i64 id, .int .i64 inn, .int .i64 out, .string reg, .int .u8 kind, .string spk, .slice a L.length c] 63) (Nat.le_refl _)) (by simp) hb1)
  clear hb1 hol hRo cL hE
  go_wp2_with fail
  go_loop [14, 3] (fun v u => ∃ (i : Nat) (s : Int), v = .int .i64 i ∧ u = .int .i64 s ∧ i ≤ L.length ∧ 0 ≤ s ∧ s ≤ 1000 + i * 1048576 ∧ Hid (sumE s (N.drop i) = Z)) (fun v _ => L.length - (intOf v).toNat)
  case atStart => exact ⟨0, _, rfl, rfl, Nat.zero_le _, by omega, by omega, HQ⟩
  case round =>
    clear HQ
    obtain ⟨i, s, rfl, rfl, hil, hs0, hs1, HZ⟩ := hrel
    by_cases hlt : i < L.length
    · have hiz : (i : Int) < (L.length : Int) := by omega
      obtain ⟨g, off, rfl, hg, _⟩ := HO.out.addr (by omega)
      have c0 := icells_at HO.out i (by rw [HLL.out]; exact hlt)
      have hz := HZ.out
      obtain ⟨x0, x1⟩ := HX.out i hlt
      rw [HD.out i (by rw [HLL.out]; exact hlt), sumE_cons] at hz
      generalize N.getD i 0 = n at *
      by_cases hn0 : n < 0
      · have HZ2 : Hid (-1 = Z) := Lib.hid (by rw [if_pos hn0] at hz; exact hz)
        clear hz HZ
        go_wp2_with fail
        go_ret
        exact ⟨ret_int HZ2.out, HB1.out⟩
      · have HZ2 : Hid (sumE (s + n) (N.drop (i + 1)) = Z) := Lib.hid (by rw [if_neg hn0] at hz; exact hz)
        clear hz HZ
        go_wp2_with fail
        go_round
        case rel => exact ⟨i + 1, s + n, by go_num, rfl, by omega, by omega, by omega, HZ2⟩
        case measure => simp [intOf]; omega
    · obtain rfl : i = L.length := by omega
      have hz := HZ.out
      rw [List.drop_of_length_le (by rw [HLL.out]; exact Nat.le_refl _)] at hz
      have HZ2 : Hid (s = Z) := Lib.hid hz
      clear hz HZ
      have hiz : ¬ (L.length : Int) < (L.length : Int) := by omega
      go_wp2_with fail
      go_ret
      exact ⟨ret_int HZ2.out, HB1.out⟩
end Go.Proofs.YtgiaohccebolpaaGreatDoor
