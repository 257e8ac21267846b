import Derived.Test.YtheemefggkcfbaaDoorT16
namespace Go.Proofs.YtheemefggkcfbaaDoor
open Go Go.Lib Go.RowKit Go.Shelf
theorem join_eq : ∀ L : List (List UInt8), Lib.join L [32] = joinB L
  | [] => rfl
  | [x] => Lib.join_one x _
  | x :: y :: r => by
    have ih := join_eq (y :: r)
    unfold Lib.join at ih ⊢
    show [32].intercalate (x :: y :: r) = x ++ 32 :: joinB (y :: r)
    rw [← ih]
    simp [List.intercalate, List.intersperse]
theorem take_ne (L : List (List UInt8)) (k : Nat) (h : k < L.length) (hk : 0 < k) : L.take k ≠ [] := by
  intro h0
  have : min k L.length = 0 := by rw [← List.length_take, h0]; rfl
  omega
theorem joinB_take (L : List (List UInt8)) (k : Nat) (h : k < L.length) : joinB (L.take (k + 1)) = (if 0 < k then joinB (L.take k) ++ [32] else joinB (L.take k)) ++ L.getD k [] := by
  rw [List.take_succ_eq_append_getElem h, List.getD_eq_getElem?_getD, List.getElem?_eq_getElem h]
  by_cases hk : 0 < k
  · rw [if_pos hk, joinB_snoc _ _ (take_ne L k h hk)]
    simp
  · obtain rfl : k = 0 := by omega
    rfl
theorem joinB_take_le (L : List (List UInt8)) : ∀ k, k ≤ L.length → (joinB (L.take k)).length ≤ (joinB L).length := by
  have step : ∀ k, k < L.length → (joinB (L.take k)).length ≤ (joinB (L.take (k + 1))).length := by
    intro k hk
    rw [joinB_take L k hk, List.length_append]
    split <;> simp <;> omega
  have up : ∀ j k, k + j ≤ L.length → (joinB (L.take k)).length ≤ (joinB (L.take (k + j))).length := by
    intro j
    induction j with
    | zero => intro k _; exact Nat.le_refl _
    | succ j ih =>
      intro k h
      exact Nat.le_trans (ih k (by omega)) (step (k + j) (by omega))
  intro k h
  have := up (L.length - k) k (by omega)
  rw [show k + (L.length - k) = L.length by omega, List.take_length] at this
  exact this
theorem ba_app (l m : List UInt8) : ba l ++ ba m = ba (l ++ m) := by
  apply ByteArray.ext
  apply Array.toList_inj.1
  rw [app_list]; rfl
set_option maxHeartbeats 4000000 in
set_option maxRecDepth 100000 in
theorem rjoin_any (a : Option Addr) (n c : Nat) (T : List Tk) (w : World) (hn : n = T.length) (hN : n ≤ 1000) (hR : RdT w a T) (hj : (joinB (texts T)).length ≤ 140737488355328) :
    Calls Tryd.prog 30 #[.slice a n c] w fun e w' => e = .returned (.string (ba (joinB (texts T)))) ∧ Below w.heap.size w w' := by
  have hl := texts_len T
  have hn1 : n ≤ T.length := by omega
  have hn2 : T.length ≤ n := by omega
  have hl1 : (texts T).length ≤ n := by omega
  have hl2 : n ≤ (texts T).length := by omega
  have hjt := joinB_take (texts T)
  have hjl := joinB_take_le (texts T)
  have hend : joinB ((texts T).take n) = joinB (texts T) := by rw [List.take_of_length_le (by omega)]
  have Hend := Lib.hid hend
  clear hend hn hl
  go_enter Tryd.func30, Tryd.ntmps30
  go_wp2_with fail
  go_loopw [3, 8] (fun s v wx => ∃ k : Nat, v = .int .i64 k ∧ k ≤ n ∧ s = .string (ba (joinB ((texts T).take k))) ∧ Below w.heap.size w wx) (fun _ v _ => n - (intOf v).toNat)
  case atStart => exact ⟨0, rfl, Nat.zero_le _, rfl, Below.refl _ _⟩
  case round =>
    obtain ⟨k, rfl, hk, rfl, hb⟩ := hrel
    have hsz := hb.size
    by_cases hlt : k < n
    · have hz : (k : Int) < (n : Int) := by omega
      obtain ⟨b, o, rfl, hbl, c0, c1⟩ := (hR.stays hb) k (by omega)
      have hg : (texts T).getD k [] = (T[k]'(by omega)).1 := by
        unfold texts; rw [List.getD_eq_getElem?_getD, List.getElem?_map, List.getElem?_eq_getElem (by omega)]; rfl
      have H1 := Lib.hid (hjt k (by omega))
      have hle := hjl (k + 1) (by omega)
      rw [H1.out] at hle
      rw [hg] at H1 hle
      rw [strV_ba] at c0
      clear hg
      generalize T[k].1 = X at *
      generalize T[k].2 = N at *
      have H2 : Hid (joinB ((texts T).take (k + 1)) = (if 0 < k then joinB ((texts T).take k) ++ [32] else joinB ((texts T).take k)) ++ X) := H1
      generalize joinB ((texts T).take k) = J at *
      have hbA := hb.alloc hsz (.cells #[.string (ba X), .int .i64 N] 30)
      by_cases h0 : 0 < k
      · have h0z : (0 : Int) < (k : Int) := by omega
        have R : Hid (ba J ++ ⟨#[32]⟩ ++ ba X = ba (joinB ((texts T).take (k + 1)))) := by
          rw [H2.out, if_pos h0]
          show Hid (ba J ++ ba [32] ++ ba X = _)
          rw [ba_app, ba_app]; exact Lib.hid rfl
        have hs1 : (ba J).size + 1 + (ba X).size ≤ 140737488355328 := by
          rw [if_pos h0] at hle
          rw [ba_size, ba_size]
          simp only [List.length_append, List.length_cons, List.length_nil] at hle
          omega
        clear H1 H2 hle hb
        go_wp2_with fail
        go_roundw
        case rel => exact ⟨k + 1, by go_num, by omega, by rw [R.out], hbA⟩
        case measure => simp [intOf]; omega
      · have h0z : ¬ (0 : Int) < (k : Int) := by omega
        have R : Hid (ba J ++ ba X = ba (joinB ((texts T).take (k + 1)))) := by
          rw [H2.out, if_neg h0, ba_app]; exact Lib.hid rfl
        have hs1 : (ba J).size + (ba X).size ≤ 140737488355328 := by
          rw [if_neg h0] at hle
          rw [ba_size, ba_size]
          simp only [List.length_append] at hle
          omega
        clear H1 H2 hle hb
        go_wp2_with fail
        go_roundw
        case rel => exact ⟨k + 1, by go_num, by omega, by rw [R.out], hbA⟩
        case measure => simp [intOf]; omega
    · obtain rfl : k = n := by omega
      have hz : ¬ (k : Int) < (k : Int) := by omega
      go_wp2_with fail
      go_ret
      exact ⟨ret_str (by rw [Hend.out]), hb⟩
end Go.Proofs.YtheemefggkcfbaaDoor
