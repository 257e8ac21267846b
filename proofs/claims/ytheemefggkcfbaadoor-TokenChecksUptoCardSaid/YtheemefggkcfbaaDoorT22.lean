import Derived.Test.YtheemefggkcfbaaDoorT21
namespace Go.Proofs.YtheemefggkcfbaaDoor
open Go Go.Lib Go.RowKit Go.Shelf
theorem joinB_le (M : Nat) : ∀ L : List (List UInt8), (∀ x ∈ L, x.length ≤ M) → (joinB L).length ≤ L.length * (M + 1)
  | [], _ => by simp [joinB]
  | [x], h => by
    have := h x (by simp)
    simp [joinB]; omega
  | x :: y :: r, h => by
    have ih := joinB_le M (y :: r) (fun z hz => h z (by simp [hz]))
    have hx := h x (by simp)
    show (x ++ 32 :: joinB (y :: r)).length ≤ _
    rw [List.length_append, List.length_cons, List.length_cons (a := x), Nat.add_mul, Nat.one_mul]
    omega
set_option maxHeartbeats 4000000 in
theorem law_checks (a : Option Addr) (n c : Nat) (p q : Int) (T : List Tk) (w : World) (hn : n = T.length) (hc : n ≤ c) (hM : ∀ x ∈ texts T, x.length ≤ 1048576) (hE : Env w) (hR : RdT w a T) :
    Calls Tryd.prog 8 #[.slice a n c, .int .i64 p, .int .i64 q] w fun e w' => e = .returned (.bool true) ∧ Below w.heap.size w w' := by
  have cA := awake_any w hE
  have cF := fun w => few_any a n c w hc
  have hR' := hR.take 24
  have hN : min n 24 = (T.take 24).length := by rw [List.length_take]; omega
  have hM' : ∀ x ∈ texts (T.take 24), x.length ≤ 1048576 := by
    intro x hx
    unfold texts at hx
    rw [List.map_take] at hx
    exact hM x (List.mem_of_mem_take hx)
  have hN24 : min n 24 ≤ 24 := by omega
  have hNc : min n 24 ≤ c := by omega
  generalize T.take 24 = D at *
  clear hR hM hn hc
  generalize min n 24 = N at *
  have hj : (joinB (texts D)).length ≤ 140737488355328 := by
    have h1 := joinB_le 1048576 (texts D) hM'
    rw [texts_len, ← hN] at h1
    have h2 : N * (1048576 + 1) ≤ 24 * (1048576 + 1) := Nat.mul_le_mul_right _ hN24
    omega
  have c1 := fun w hE hR => check_any a N c D w hN (by omega) (fun x hx => by have := hM' x hx; omega) hE hR
  have c2 := fun w hR => rcheck_any a N c D w hN (by omega) (fun x hx => by have := hM' x hx; omega) hR
  have c3 := fun w hE hR => tlen_any a N c p q D w hN hNc (by omega) (fun x hx => by have := hM' x hx; omega) hE hR
  have c4 := fun w hR => rtlen_any a N c p q D w hN (by omega) (fun x hx => by have := hM' x hx; omega) hR
  have c5 := fun w hR => join_any a N c D w hN (by omega) hR hj
  have c6 := fun w hR => rjoin_any a N c D w hN (by omega) hR hj
  clear hM' hN hj
  generalize checkT D = Z1 at *
  generalize lenT (texts D) p q = Z2 at *
  generalize ba (joinB (texts D)) = Z3 at *
  go_enter Tryd.func8, Tryd.ntmps8
  go_wp2_with fail
  refine cA.mono ?_
  rintro e w1 ⟨rfl, hb1⟩
  go_wp2_with fail
  refine (cF _).mono ?_
  rintro e w1' ⟨rfl, rfl⟩
  have R1 := hR'.stays hb1
  have k1 := c1 w1 (hE.below hb1) R1
  clear cA cF c1 hR'
  go_wp2_with fail
  refine k1.mono ?_
  rintro e w2 ⟨rfl, hb⟩
  have hb2 := below_trans hb1 hb
  have R2 := R1.stays hb
  have k2 := c2 w2 R2
  clear k1 hb hb1 R1 c2
  go_wp2_with fail
  refine k2.mono ?_
  rintro e w3 ⟨rfl, hb⟩
  have hb3 := below_trans hb2 hb
  have R3 := R2.stays hb
  have k3 := c3 w3 (hE.below hb3) R3
  clear k2 hb hb2 R2 c3
  go_wp2_with fail
  refine k3.mono ?_
  rintro e w4 ⟨rfl, hb⟩
  have hb4 := below_trans hb3 hb
  have R4 := R3.stays hb
  have k4 := c4 w4 R4
  clear k3 hb hb3 R3 c4
  go_wp2_with fail
  refine k4.mono ?_
  rintro e w5 ⟨rfl, hb⟩
  have hb5 := below_trans hb4 hb
  have R5 := R4.stays hb
  have k5 := c5 w5 R5
  clear k4 hb hb4 R4 c5
  go_wp2_with fail
  refine k5.mono ?_
  rintro e w6 ⟨rfl, hb⟩
  have hb6 := below_trans hb5 hb
  have R6 := R5.stays hb
  have k6 := c6 w6 R6
  clear k5 hb hb5 R5 c6
  go_wp2_with fail
  refine k6.mono ?_
  rintro e w7 ⟨rfl, hb⟩
  have hb7 := below_trans hb6 hb
  go_wp2_with fail
  go_ret
  exact ⟨ret_true (by simp), hb7⟩
end Go.Proofs.YtheemefggkcfbaaDoor
