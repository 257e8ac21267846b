import Derived.Test.YtheemefggkcfbaaDoorT12
namespace Go.Proofs.YtheemefggkcfbaaDoor
open Go Go.Lib Go.RowKit Go.Shelf
/-- The texts of tokens. -/
def texts (T : List Tk) : List (List UInt8) := T.map (·.1)
theorem texts_len (T : List Tk) : (texts T).length = T.length := by simp [texts]
theorem runes_le (l : List UInt8) : lenC l ≤ l.length ∧ -1 ≤ lenC l := by
  unfold lenC
  have := runes_length l
  split <;> omega
theorem sumL_take (L : List (List UInt8)) (k : Nat) (h : k < L.length) : sumL (L.take (k + 1)) = sumL (L.take k) + lenC (L.getD k []) := by
  unfold sumL
  rw [List.take_succ_eq_append_getElem h, List.map_append, List.sum_append, List.getD_eq_getElem?_getD, List.getElem?_eq_getElem h]
  simp
theorem sumL_bound (L : List (List UInt8)) (M : Nat) (hM : ∀ x ∈ L, x.length ≤ M) : ∀ k, k ≤ L.length → -(k : Int) ≤ sumL (L.take k) ∧ sumL (L.take k) ≤ (k * M : Nat)
  | 0, _ => by simp [sumL]
  | k + 1, h => by
    have ih := sumL_bound L M hM k (by omega)
    have hb := runes_le (L.getD k [])
    have hx : (L.getD k []).length ≤ M := by
      rw [List.getD_eq_getElem?_getD, List.getElem?_eq_getElem (by omega)]
      exact hM _ (List.getElem_mem _)
    rw [sumL_take L k (by omega), Nat.add_mul, Nat.one_mul]
    omega
theorem lenT_bad {L : List (List UInt8)} {p q : Int} (h : p < 0 ∨ q < p ∨ (L.length : Int) < q) : lenT L p q = 0 := by unfold lenT; rw [if_pos h]
theorem lenT_good {L : List (List UInt8)} {p q : Nat} (h1 : p ≤ q) (h2 : q ≤ L.length) : lenT L p q = sumC ((L.drop p).take (q - p)) := by
  unfold lenT
  rw [if_neg (by omega)]
  congr 2
  omega
theorem sumC_window (W : List (List UInt8)) : sumC W = max 0 ((W.length : Int) - 1) + sumL W := by
  by_cases h : W = []
  · subst h; rfl
  · have hl : 0 < W.length := List.length_pos_iff.2 h
    rw [sumC_sum W h]; omega
set_option maxHeartbeats 4000000 in
set_option maxRecDepth 100000 in
theorem tlen_any (a : Option Addr) (n c : Nat) (p q : Int) (T : List Tk) (w : World) (hn : n = T.length) (hc : n ≤ c) (hN : n ≤ 1000) (hM : ∀ x ∈ texts T, x.length ≤ 140737488355328) (hE : Env w) (hR : RdT w a T) :
    Calls Tryd.prog 24 #[.slice a n c, .int .i64 p, .int .i64 q] w fun e w' => e = .returned (.int .i64 (lenT (texts T) p q)) ∧ Below w.heap.size w w' := by
  have hl := texts_len T
  by_cases h1 : p < 0
  · have e := lenT_bad (L := texts T) (p := p) (q := q) (Or.inl h1)
    rw [e]; clear e hl hM hR
    go_enter Tryd.func24, Tryd.ntmps24
    go_wp2
    go_ret
    exact ⟨rfl, Below.refl _ _⟩
  have d1 : decide (p < 0) = false := by simpa using h1
  by_cases h2 : q < p
  · have e := lenT_bad (L := texts T) (p := p) (q := q) (Or.inr (Or.inl h2))
    rw [e]; clear e hl hM hR
    go_enter Tryd.func24, Tryd.ntmps24
    go_wp2
    go_ret
    exact ⟨rfl, Below.refl _ _⟩
  have d2 : decide (q < p) = false := by simpa using h2
  by_cases h3 : (n : Int) < q
  · have e := lenT_bad (L := texts T) (p := p) (q := q) (Or.inr (Or.inr (by omega)))
    rw [e]; clear e hl hM hR
    go_enter Tryd.func24, Tryd.ntmps24
    go_wp2
    go_ret
    exact ⟨rfl, Below.refl _ _⟩
  have d3 : decide ((n : Int) < q) = false := by simpa using h3
  obtain ⟨p, rfl⟩ := Int.eq_ofNat_of_zero_le (Int.not_lt.1 h1)
  obtain ⟨q, rfl⟩ := Int.eq_ofNat_of_zero_le (show 0 ≤ q by omega)
  have hpq : p ≤ q := by omega
  have hqn : q ≤ n := by omega
  have HZ := Lib.hid (lenT_good (L := texts T) hpq (by omega))
  generalize lenT (texts T) p q = Z at *
  by_cases h0 : p = q
  · subst h0
    have HZ0 : Hid (Z = 0) := by have h := HZ.out; rw [Nat.sub_self] at h; exact Lib.hid h
    clear hR hl hM HZ h1 h2 h3 hpq
    go_enter Tryd.func24, Tryd.ntmps24
    have hmx : max (0 : Int) (-1) = 0 := by decide
    have HM := Lib.hid hmx; clear hmx
    go_wp2_with fail
    all_goals
      go_loop [7, 33] (fun s v => s = .int .i64 (max 0 (-1)) ∧ v = .int .i64 0) (fun _ _ => 0)
      case atStart => exact ⟨rfl, rfl⟩
      case round =>
        obtain ⟨rfl, rfl⟩ := hrel
        go_wp2_with fail
        go_ret
        exact ⟨ret_int (HM.out.trans HZ0.out.symm), Below.refl _ _⟩
  · obtain ⟨b, o, rfl, q1, q2, q3⟩ := hR p (by omega)
    clear q1 q2 q3
    have R := (hR.drop p).take (q - p)
    have hDl : ((T.drop p).take (q - p)).length = q - p := by rw [List.length_take, List.length_drop]; omega
    have HD : Hid ((texts T).drop p = texts (T.drop p) ∧ ((texts T).drop p).take (q - p) = texts ((T.drop p).take (q - p))) := by
      unfold texts; rw [← List.map_drop, ← List.map_take]; exact Lib.hid ⟨rfl, rfl⟩
    have hMD : ∀ x ∈ texts ((T.drop p).take (q - p)), x.length ≤ 140737488355328 := by
      rw [← HD.out.2]
      intro x hx
      exact hM x (List.mem_of_mem_drop (List.mem_of_mem_take hx))
    have HZ2 : Hid (Z = sumC (texts ((T.drop p).take (q - p)))) := Lib.hid (by rw [HZ.out, HD.out.2])
    generalize (T.drop p).take (q - p) = D at *
    have hcp : ¬ c = p := by omega
    have hlt : (p : Int) < (q : Int) := by omega
    clear hR hM HD HZ h1 h2 h3 hn hl
    have e1 : decide (q < p) = false := by simp; omega
    have e2 : decide (n < q) = false := by simp; omega
    have hDt := texts_len D
    go_enter Tryd.func24, Tryd.ntmps24
    go_wp2_with fail
    go_loopw [7, 33] (fun s v wx => ∃ k : Nat, v = .int .i64 k ∧ k ≤ q - p ∧ s = .int .i64 (max 0 ((q : Int) - p - 1) + sumL ((texts D).take k)) ∧ Below w.heap.size w wx) (fun _ v _ => (q - p) - (intOf v).toNat)
    case atStart => exact ⟨0, rfl, Nat.zero_le _, by simp [sumL], Below.refl _ _⟩
    case round =>
      obtain ⟨k, rfl, hk, rfl, hb⟩ := hrel
      have hsz := hb.size
      have SB := sumL_bound (texts D) 140737488355328 hMD k (by omega)
      by_cases hlt2 : k < q - p
      · have hz : (k : Int) < ((q - p : Nat) : Int) := by omega
        obtain ⟨b2, o2, e, hl2, c0, c1⟩ := (R.stays hb) k (by omega)
        obtain ⟨rfl, rfl⟩ : b = b2 ∧ o + p * 2 = o2 := by cases e; exact ⟨rfl, rfl⟩
        clear e
        have HS := Lib.hid (sumL_take (texts D) k (by omega))
        have hg : (texts D).getD k [] = (D[k]'(by omega)).1 := by
          unfold texts; rw [List.getD_eq_getElem?_getD, List.getElem?_map, List.getElem?_eq_getElem (by omega)]; rfl
        have hxl : (D[k]'(by omega)).1.length ≤ 140737488355328 := hMD _ (List.mem_map_of_mem (List.getElem_mem _))
        have hr := runes_le (D[k]'(by omega)).1
        have cL := fun w hE => len_any (ba (D[k]'(by omega)).1) w (by rw [ba_size]; omega) hE
        change ∀ w, Env w → Calls Tryd.prog 25 #[.string (ba (D[k]'(by omega)).1)] w fun e w' => e = .returned (.int .i64 (lenC (D[k]'(by omega)).1)) ∧ Below w.heap.size w w' at cL
        rw [hg] at HS
        rw [strV_ba] at c0
        clear hg
        generalize D[k].1 = X at *
        generalize D[k].2 = N at *
        generalize lenC X = LX at *
        have hkm : k * 140737488355328 ≤ 1000 * 140737488355328 := Nat.mul_le_mul_right _ (by omega)
        have hadd : (0 : Int) ≤ max 0 ((q : Int) - p - 1) ∧ max 0 ((q : Int) - p - 1) ≤ 65536 := by omega
        generalize max (0 : Int) ((q : Int) - p - 1) = P0 at *
        generalize sumL ((texts D).take k) = S at *
        have hbA := hb.alloc hsz (.cells #[.string (ba X), .int .i64 N] 30)
        have cL1 := cL _ (hE.below hbA)
        have hszA := hbA.size
        clear cL
        have b1 : -9223372036854775808 ≤ P0 + S + LX := by omega
        have b2 : P0 + S + LX ≤ 9223372036854775807 := by omega
        go_wp2_with (go_at_call 25; refine cL1.mono ?_; rintro e w2 ⟨rfl, hb2⟩)
        go_roundw
        case rel => exact ⟨k + 1, by go_num, by omega, by rw [HS.out, ← Int.add_assoc], below_grow hbA hszA hb2⟩
        case measure => simp [intOf]; omega
      · obtain rfl : k = q - p := by omega
        have hz : ¬ ((q - p : Nat) : Int) < ((q - p : Nat) : Int) := by omega
        have HF : Hid (max 0 ((q : Int) - p - 1) + sumL ((texts D).take (q - p)) = Z) := by
          refine Lib.hid ?_
          rw [HZ2.out, sumC_window, List.take_of_length_le (by omega), hDt, hDl]
          congr 1; omega
        clear SB
        go_wp2_with fail
        go_ret
        exact ⟨ret_int HF.out, hb⟩
end Go.Proofs.YtheemefggkcfbaaDoor
