import Derived.Test.YtheemefggkcfbaaDoorT11
import Derived.Laws.StructEq
import Derived.Shelf.SlicesQ.Equal
namespace Go.Proofs.YtheemefggkcfbaaDoor
open Go Go.Lib Go.RowKit Go.Shelf
abbrev Tk := List UInt8 × Int
/-- The tokens that a slice's places hold. -/
def RdT (w : World) (a : Option Addr) (T : List Tk) : Prop :=
  ∀ i (h : i < T.length), ∃ b o, a = some ⟨b, o, none⟩ ∧ b < w.heap.size ∧ w.cell? ⟨b, o + i * 2, none⟩ = some (strV T[i].1) ∧ w.cell? ⟨b, o + i * 2 + 1, none⟩ = some (.int .i64 T[i].2)
theorem RdT.nil (w : World) (a : Option Addr) : RdT w a [] := fun i h => by simp at h
theorem RdT.stays {w w' : World} {a : Option Addr} {T : List Tk} (h : RdT w a T) (hb : Below w.heap.size w w') : RdT w' a T := fun i hi => by
  obtain ⟨b, o, e, hl, h0, h1⟩ := h i hi
  exact ⟨b, o, e, Nat.lt_of_lt_of_le hl hb.size, (hb.cell (p := ⟨b, o + i * 2, none⟩) hl).trans h0, (hb.cell (p := ⟨b, o + i * 2 + 1, none⟩) hl).trans h1⟩
theorem RdT.own {w : World} {B n m c : Nat} {a : Option Addr} {T : List Tk} (h : w.ownsRow B 30 2 (.slice a m c) n (tcells T)) : RdT w a T ∧ m = n ∧ n = T.length := by
  have hl := h.1
  rw [tcells_len] at hl
  have hn : n = T.length := by omega
  rcases h.2 with ⟨e, h0⟩ | ⟨g, cap, cur, e, hB, hh, hcap, hm, hsz, hx⟩
  · obtain ⟨rfl, rfl, rfl⟩ : a = none ∧ m = 0 ∧ c = 0 := by cases e; exact ⟨rfl, rfl, rfl⟩
    exact ⟨fun i hi => by omega, h0.symm, hn⟩
  · obtain ⟨rfl, rfl, rfl⟩ : a = some ⟨g, 0, none⟩ ∧ m = n ∧ c = cap := by cases e; exact ⟨rfl, rfl, rfl⟩
    refine ⟨fun i hi => ⟨g, 0, rfl, heap_lt hh, ?_, ?_⟩, rfl, hn⟩
    · rw [Nat.zero_add, h.cellAt (i * 2) (by omega)]; exact (tcells_get T i hi).1
    · rw [Nat.zero_add, h.cellAt (i * 2 + 1) (by omega)]; exact (tcells_get T i hi).2
theorem RdT.take {w : World} {a : Option Addr} {T : List Tk} (h : RdT w a T) (k : Nat) : RdT w a (T.take k) := fun i hi => by
  rw [List.length_take] at hi
  obtain ⟨b, o, e, hl, h0, h1⟩ := h i (by omega)
  exact ⟨b, o, e, hl, by rw [List.getElem_take]; exact h0, by rw [List.getElem_take]; exact h1⟩
theorem RdT.drop {w : World} {b o : Nat} {T : List Tk} (h : RdT w (some ⟨b, o, none⟩) T) (k : Nat) : RdT w (some ⟨b, o + k * 2, none⟩) (T.drop k) := fun i hi => by
  rw [List.length_drop] at hi
  obtain ⟨b', o', e, hl, h0, h1⟩ := h (k + i) (by omega)
  obtain ⟨rfl, rfl⟩ : b = b' ∧ o = o' := by cases e; exact ⟨rfl, rfl⟩
  have e1 : o + k * 2 + i * 2 = o + (k + i) * 2 := by omega
  exact ⟨b, o + k * 2, rfl, hl, by rw [e1, List.getElem_drop]; exact h0, by rw [e1, List.getElem_drop]; exact h1⟩

/-! ### slices.Equal of tokens -/
def eqT (x y : Tk) : Bool := x.1 == y.1 && x.2 == y.2
theorem eqT_iff (x y : Tk) : eqT x y = decide (x = y) := by
  obtain ⟨a, b⟩ := x; obtain ⟨c, d⟩ := y
  unfold eqT
  exact Bool.eq_iff_iff.2 (by simp)
theorem ba_eq (l m : List UInt8) : ((ba l).toList == (ba m).toList) = (l == m) := by rw [ba_list, ba_list]
theorem neqT : NeqAt Tryd.prog 30 (fun x => .agg (tcell x).toArray) eqT := by
  refine ⟨fun x y w => ?_, GuardAt.agg _ (by kernel_rfl)⟩
  have u3 := Tryd.underlying3
  have a3 := Tryd.isAgg3
  have z3 := Tryd.sizeOf3
  have u9 := Tryd.underlying9
  have a9 := Tryd.isAgg9
  have z9 := Tryd.sizeOf9
  have hS : Tryd.prog.underlying 30 = some (.struct (Tryd.prog.fieldsOf 30)) := by kernel_rfl
  have hp : Tryd.prog.stoodInHeld 30 = false := by kernel_rfl
  simp only [tcell, strV_ba]
  rw [run_neq_struct, show (10000 : Nat) = 9999 + 1 from rfl, run_equalIn_agg w 9999 30 _ _ hS hp]
  simp only [Program.fieldsOf, Tryd.underlying30]
  have hbe : ∀ a b : ByteArray, (a == b) = (a.toList == b.toList) := beq_toListBytes
  go_simp
  unfold eqT
  have e1 : (ba x.1 == ba y.1) = (x.1 == y.1) := by rw [beq_toListBytes, ba_eq]
  by_cases h1 : x.1 = y.1 <;> by_cases h2 : x.2 = y.2 <;> simp [h1, h2, ba_list]
theorem allEq_iff : ∀ (xs ys : List Tk), Lib.allEq eqT xs ys = decide (xs = ys)
  | [], [] => rfl
  | [], _ :: _ => rfl
  | _ :: _, [] => rfl
  | x :: xs, y :: ys => by
    show (eqT x y && Lib.allEq eqT xs ys) = _
    rw [eqT_iff, allEq_iff xs ys]
    exact Bool.eq_iff_iff.2 (by simp)
theorem below_draws {w : World} (q : Nat) : Below w.heap.size w (w.drewN q) := ⟨rfl, rfl, rfl, Nat.le_refl _, fun _ _ => rfl⟩
set_option maxHeartbeats 1000000 in
theorem equal_any (a a' : Option Addr) (n m c c' : Nat) (T U : List Tk) (w : World) (hn : n = T.length) (hm : m = U.length) (hN : n ≤ 65536) (hM : m ≤ 65536) (h1 : RdT w a T) (h2 : RdT w a' U) :
    Calls Tryd.prog 20 #[.slice a n c, .slice a' m c'] w fun e w' => e = .returned (.bool (decide (T = U))) ∧ Below w.heap.size w w' := by
  by_cases hnm : n = m
  · by_cases h0 : n = 0
    · have hT : T = [] := List.eq_nil_of_length_eq_zero (by omega)
      have hU : U = [] := List.eq_nil_of_length_eq_zero (by omega)
      subst hT hU h0
      obtain rfl : m = 0 := hnm.symm
      clear hn hm hnm h1 h2
      go_enter Tryd.func20, Tryd.ntmps20
      go_wp2
      go_loop [13] (fun v => v = .int .i64 0) (fun _ => 0)
      case atStart => rfl
      case round =>
        subst hrel
        go_wp2
        go_ret
        exact ⟨rfl, Below.refl _ _⟩
    · subst hnm
      obtain ⟨b, o, rfl, _, _, _⟩ := h1 0 (by omega)
      obtain ⟨b', o', rfl, _, _, _⟩ := h2 0 (by omega)
      have c := AnyQ.slices_Equal Tryd.laysEqTok 2 Tryd.isAgg30 Tryd.sizeOf30 tcell (fun _ => rfl) eqT neqT b o n c b' o' n c' T U w (by omega) (by omega) (by omega) (by omega)
        (fun j hj i v hi => by
          obtain ⟨b1, o1, e, _, q0, q1⟩ := h1 j hj
          obtain ⟨rfl, rfl⟩ : b = b1 ∧ o = o1 := by cases e; exact ⟨rfl, rfl⟩
          rw [getElem!_pos T j hj] at hi
          match i, hi with
          | 0, hi => cases hi; exact q0
          | 1, hi => cases hi; exact q1
          | i + 2, hi => simp [tcell] at hi)
        (fun j hj i v hi => by
          obtain ⟨b1, o1, e, _, q0, q1⟩ := h2 j hj
          obtain ⟨rfl, rfl⟩ : b' = b1 ∧ o' = o1 := by cases e; exact ⟨rfl, rfl⟩
          rw [getElem!_pos U j hj] at hi
          match i, hi with
          | 0, hi => cases hi; exact q0
          | 1, hi => cases hi; exact q1
          | i + 2, hi => simp [tcell] at hi)
      refine Calls.mono (show Calls Tryd.prog 20 _ w _ from c) ?_
      rintro e w' ⟨rfl, q, rfl⟩
      rw [List.take_of_length_le (by omega), List.take_of_length_le (by omega), allEq_iff]
      exact ⟨rfl, below_draws q⟩
  · have hne : decide (T = U) = false := by
      rw [decide_eq_false_iff_not]; rintro rfl; exact hnm (hn.trans hm.symm)
    rw [hne]
    have hz : ¬ (n : Int) = (m : Int) := by omega
    clear hne h1 h2 hn hm hnm
    go_enter Tryd.func20, Tryd.ntmps20
    go_wp2
    go_ret
    exact ⟨rfl, Below.refl _ _⟩
/-! ### the laws' own cuts -/
def short (l : List UInt8) : List UInt8 := l.take 300
theorem short_len (l : List UInt8) : (short l).length ≤ 300 := by simp [short]; omega
theorem extract_take (s : ByteArray) (k : Nat) : s.extract 0 k = ba (s.data.toList.take k) := by
  apply ByteArray.ext
  apply Array.toList_inj.1
  rw [extract_data]
  simp [ba]
theorem ret_str {a b : ByteArray} (h : a = b) : Ending.returned (.string a) = .returned (.string b) := by rw [h]
theorem ret_slice {a : Option Addr} {n m c : Nat} (h : n = m) : Ending.returned (.slice a n c) = .returned (.slice a m c) := by rw [h]
set_option maxHeartbeats 1000000 in
theorem short_any (s : ByteArray) (w : World) (hs : s.size < 9223372036854775807) : Calls Tryd.prog 17 #[.string s] w fun e w' => e = .returned (.string (ba (short s.data.toList))) ∧ w = w' := by
  have e : s.extract 0 (min (s.size : Int) 300).toNat = ba (short s.data.toList) := by
    rw [extract_take]; unfold short
    congr 1
    have h := size_eq s
    by_cases hl : s.size ≤ 300
    · rw [List.take_of_length_le (by omega), List.take_of_length_le (by omega)]
    · congr 1; omega
  have E := Lib.hid e; clear e
  go_enter Tryd.func17, Tryd.ntmps17
  go_wp2
  go_ret
  exact ⟨ret_str E.out, rfl⟩
set_option maxHeartbeats 1000000 in
theorem few_any (a : Option Addr) (n c : Nat) (w : World) (hc : n ≤ c) : Calls Tryd.prog 23 #[.slice a n c] w fun e w' => e = .returned (.slice a (min n 24) c) ∧ w = w' := by
  go_enter Tryd.func23, Tryd.ntmps23
  go_wp2
  go_ret
  exact ⟨ret_slice (by omega), rfl⟩
end Go.Proofs.YtheemefggkcfbaaDoor
