import Derived.Test.YtheemefggkcfbaaDoorT14
namespace Go.Proofs.YtheemefggkcfbaaDoor
open Go Go.Lib Go.RowKit Go.Shelf
theorem ret_true {a : Bool} (h : a = true) : Ending.returned (.bool a) = .returned (.bool true) := by rw [h]
set_option maxHeartbeats 4000000 in
theorem law_splits (s : ByteArray) (w : World) (hs : s.size < 9223372036854775807) (hE : Env w) :
    Calls Tryd.prog 3 #[.string s] w fun e w' => e = .returned (.bool true) ∧ Below w.heap.size w w' := by
  have cA := awake_any w hE
  have cS := fun w => short_any s w hs
  have hl := short_len s.data.toList
  have c1 := fun w hE => split_any' (ba (short s.data.toList)) w (by rw [ba_size]; omega) hE
  have c2 := fun w => rsplit_any (ba (short s.data.toList)) w (by rw [ba_size]; omega)
  have hN := splitL_len (ba (short s.data.toList)).data.toList
  generalize splitL (ba (short s.data.toList)).data.toList = T at *
  generalize splitE (ba (short s.data.toList)).data.toList = ER at *
  generalize ba (short s.data.toList) = S at *
  go_enter Tryd.func3, Tryd.ntmps3
  go_wp2_with fail
  refine cA.mono ?_
  rintro e w1 ⟨rfl, hb1⟩
  go_wp2_with fail
  refine (cS _).mono ?_
  rintro e w1' ⟨rfl, rfl⟩
  have k1 := c1 w1 (hE.below hb1)
  go_wp2_with fail
  refine k1.mono ?_
  rintro e w2 ⟨v, rfl, ho, hb⟩
  obtain ⟨a, c, rfl⟩ := own_len ho
  obtain ⟨R1, _, _⟩ := RdT.own ho
  have hb2 := below_grow hb1 hb1.size hb
  clear cA k1 ho hb hb1 c1 cS
  go_wp2_with fail
  refine (c2 _).mono ?_
  rintro e w3 ⟨v, rfl, ho, hb⟩
  obtain ⟨a', c', rfl⟩ := own_len ho
  obtain ⟨R2, _, _⟩ := RdT.own ho
  have R1' := R1.stays hb
  have hb3 := below_grow hb2 hb2.size hb
  have cE := equal_any a a' T.length T.length c c' T T w3 rfl rfl (by omega) (by omega) R1' R2
  have HI : Hid (decide (T = T) = true) := Lib.hid (by simp)
  rw [HI.out] at cE
  clear ho hb hb2 c2 R1
  go_wp2_with fail
  refine cE.mono ?_
  rintro e w4 ⟨rfl, hb⟩
  have hb4 := below_grow hb3 hb3.size hb
  go_wp2_with fail
  go_ret
  exact ⟨ret_true (by simp), hb4⟩
set_option maxHeartbeats 4000000 in
theorem law_strengths (s t : ByteArray) (w : World) (hs : s.size < 9223372036854775807) (ht : t.size < 9223372036854775807) (hE : Env w) :
    Calls Tryd.prog 4 #[.string s, .string t] w fun e w' => e = .returned (.bool true) ∧ Below w.heap.size w w' := by
  have cA := awake_any w hE
  have cS := fun w => short_any s w hs
  have cT := fun w => short_any t w ht
  have hl := short_len s.data.toList
  have hl2 := short_len t.data.toList
  have c1 := fun w hE => strength_any (ba (short s.data.toList)) (ba (short t.data.toList)) w (by rw [ba_size]; omega) (by rw [ba_size]; omega) hE
  have c2 := fun w => rstrength_any (ba (short s.data.toList)) (ba (short t.data.toList)) w (by rw [ba_size]; omega) (by rw [ba_size]; omega)
  generalize strW (ba (short s.data.toList)).data.toList (ba (short t.data.toList)).data.toList = Z at *
  generalize ba (short s.data.toList) = S at *
  generalize ba (short t.data.toList) = T at *
  go_enter Tryd.func4, Tryd.ntmps4
  go_wp2_with fail
  refine cA.mono ?_
  rintro e w1 ⟨rfl, hb1⟩
  go_wp2_with fail
  refine (cS _).mono ?_
  rintro e w1' ⟨rfl, rfl⟩
  go_wp2_with fail
  refine (cT _).mono ?_
  rintro e w1' ⟨rfl, rfl⟩
  go_wp2_with fail
  refine (c1 _ (hE.below hb1)).mono ?_
  rintro e w2 ⟨rfl, hb2⟩
  go_wp2_with fail
  refine (c2 _).mono ?_
  rintro e w3 ⟨rfl, hb3⟩
  go_wp2_with fail
  go_ret
  exact ⟨ret_true (by simp), below_trans (below_trans hb1 hb2) hb3⟩
theorem sumC_bound (L : List (List UInt8)) (hl : L.length ≤ 1000) (hM : ∀ x ∈ L, x.length ≤ 140737488355328) : -1000 ≤ sumC L ∧ sumC L ≤ 140737488355329000 := by
  have h := sumL_bound L 140737488355328 hM L.length (Nat.le_refl _)
  rw [List.take_of_length_le (Nat.le_refl _)] at h
  have h2 : L.length * 140737488355328 ≤ 1000 * 140737488355328 := Nat.mul_le_mul_right _ hl
  rw [sumC_window]
  omega
theorem lenT_bound (L : List (List UInt8)) (p q : Int) (hl : L.length ≤ 1000) (hM : ∀ x ∈ L, x.length ≤ 140737488355328) : -1000 ≤ lenT L p q ∧ lenT L p q ≤ 140737488355329000 := by
  unfold lenT
  split
  · omega
  · apply sumC_bound
    · rw [List.length_take, List.length_drop]; omega
    · intro x hx
      exact hM x (List.mem_of_mem_drop (List.mem_of_mem_take hx))
set_option maxHeartbeats 4000000 in
theorem law_adds (a : Option Addr) (n c : Nat) (m : Int) (T : List Tk) (w : World) (hn : n = T.length) (hc : n ≤ c) (hM : ∀ x ∈ texts T, x.length ≤ 140737488355328) (hE : Env w) (hR : RdT w a T) :
    Calls Tryd.prog 5 #[.slice a n c, .int .i64 m] w fun e w' => e = .returned (.bool true) ∧ Below w.heap.size w w' := by
  have cA := awake_any w hE
  have cF := fun w => few_any a n c w hc
  have hR' := hR.take 24
  have hN : min n 24 = (T.take 24).length := by rw [List.length_take]; omega
  have hM' : ∀ x ∈ texts (T.take 24), x.length ≤ 140737488355328 := by
    intro x hx
    unfold texts at hx
    rw [List.map_take] at hx
    exact hM x (List.mem_of_mem_take hx)
  have hN24 : min n 24 ≤ 24 := by omega
  have hNc : min n 24 ≤ c := by omega
  generalize T.take 24 = D at *
  clear hR hM hn hc
  generalize min n 24 = N at *
  have cL := fun p q w hE hR => tlen_any a N c p q D w hN hNc (by omega) hM' hE hR
  have hDt := texts_len D
  by_cases h1 : m < 1
  · have HZ : Hid (lenT (texts D) 0 0 = 0) := by unfold lenT; split <;> exact Lib.hid rfl
    clear hDt hM' hN
    go_enter Tryd.func5, Tryd.ntmps5
    go_wp2_with fail
    refine cA.mono ?_
    rintro e w1 ⟨rfl, hb1⟩
    go_wp2_with fail
    refine (cF _).mono ?_
    rintro e w1' ⟨rfl, rfl⟩
    have c1 := cL 0 0 w1 (hE.below hb1) (hR'.stays hb1)
    rw [HZ.out] at c1
    clear cA cF cL
    go_wp2_with fail
    refine c1.mono ?_
    rintro e w2 ⟨rfl, hb2⟩
    go_wp2_with fail
    go_ret
    exact ⟨ret_true (by simp), below_trans hb1 hb2⟩
  by_cases h2 : (N : Int) ≤ m
  · have HZ : Hid (lenT (texts D) 0 0 = 0) := by unfold lenT; split <;> exact Lib.hid rfl
    have d1 : decide (m < 1) = false := by simpa using h1
    clear hDt hM' hN
    go_enter Tryd.func5, Tryd.ntmps5
    go_wp2_with fail
    refine cA.mono ?_
    rintro e w1 ⟨rfl, hb1⟩
    go_wp2_with fail
    refine (cF _).mono ?_
    rintro e w1' ⟨rfl, rfl⟩
    have c1 := cL 0 0 w1 (hE.below hb1) (hR'.stays hb1)
    rw [HZ.out] at c1
    clear cA cF cL
    go_wp2_with fail
    refine c1.mono ?_
    rintro e w2 ⟨rfl, hb2⟩
    go_wp2_with fail
    go_ret
    exact ⟨ret_true (by simp), below_trans hb1 hb2⟩
  · have HA := Lib.hid (lenT_adds (texts D) m (by omega) (by omega))
    rw [hDt, ← hN] at HA
    have B1 := lenT_bound (texts D) 0 N (by omega) hM'
    have B2 := lenT_bound (texts D) 0 m (by omega) hM'
    have B3 := lenT_bound (texts D) m N (by omega) hM'
    have c1 := fun w => cL 0 N w
    have c2 := fun w => cL 0 m w
    have c3 := fun w => cL m N w
    generalize lenT (texts D) 0 N = Z1 at *
    generalize lenT (texts D) 0 m = Z2 at *
    generalize lenT (texts D) m N = Z3 at *
    have d1 : decide (m < 1) = false := by simpa using h1
    have d2 : decide ((N : Int) ≤ m) = false := by simpa using h2
    clear hDt hM' hN cL
    go_enter Tryd.func5, Tryd.ntmps5
    go_wp2_with fail
    refine cA.mono ?_
    rintro e w1 ⟨rfl, hb1⟩
    go_wp2_with fail
    refine (cF _).mono ?_
    rintro e w1' ⟨rfl, rfl⟩
    have k1 := c1 w1 (hE.below hb1) (hR'.stays hb1)
    clear cA cF c1
    go_wp2_with fail
    refine k1.mono ?_
    rintro e w2 ⟨rfl, hb⟩
    have hb2 := below_trans hb1 hb
    have k2 := c2 w2 (hE.below hb2) (hR'.stays hb2)
    clear k1 hb hb1 c2
    go_wp2_with fail
    refine k2.mono ?_
    rintro e w3 ⟨rfl, hb⟩
    have hb3 := below_trans hb2 hb
    have k3 := c3 w3 (hE.below hb3) (hR'.stays hb3)
    clear k2 hb hb2 c3
    go_wp2_with fail
    refine k3.mono ?_
    rintro e w4 ⟨rfl, hb⟩
    have hb4 := below_trans hb3 hb
    go_wp2_with fail
    go_ret
    exact ⟨ret_true (by rw [HA.out]; simp), hb4⟩
end Go.Proofs.YtheemefggkcfbaaDoor
