import Derived.Test.YtheemefggkcfbaaDoorT20
namespace Go.Proofs.YtheemefggkcfbaaDoor
open Go Go.Lib Go.RowKit Go.Shelf
theorem sumC_succ (W : List (List UInt8)) (j : Nat) (h : j < W.length) : sumC (W.take (j + 1)) = (if 0 < j then sumC (W.take j) + 1 else sumC (W.take j)) + lenC (W.getD j []) := by
  rw [List.take_succ_eq_append_getElem h, List.getD_eq_getElem?_getD, List.getElem?_eq_getElem h]
  by_cases hj : 0 < j
  · rw [if_pos hj, sumC_app _ _ (take_ne W j h hj) (by simp)]; rfl
  · obtain rfl : j = 0 := by omega
    simp [sumC]
theorem take_mem {W : List (List UInt8)} {M j : Nat} (hM : ∀ x ∈ W, x.length ≤ M) : ∀ x ∈ W.take j, x.length ≤ M := fun x hx => hM x (List.mem_of_mem_take hx)
set_option maxHeartbeats 4000000 in
set_option maxRecDepth 100000 in
theorem rtlen_any (a : Option Addr) (n c : Nat) (p q : Int) (T : List Tk) (w : World) (hn : n = T.length) (hN : n ≤ 1000) (hM : ∀ x ∈ texts T, x.length ≤ 1099511627776) (hR : RdT w a T) :
    Calls Tryd.prog 29 #[.slice a n c, .int .i64 p, .int .i64 q] w fun e w' => e = .returned (.int .i64 (lenT (texts T) p q)) ∧ Below w.heap.size w w' := by
  have hl := texts_len T
  by_cases h1 : p < 0
  · have e := lenT_bad (L := texts T) (p := p) (q := q) (Or.inl h1)
    rw [e]; clear e hl hM hR
    go_enter Tryd.func29, Tryd.ntmps29
    go_wp2
    go_ret
    exact ⟨rfl, Below.refl _ _⟩
  have d1 : decide (p < 0) = false := by simpa using h1
  by_cases h2 : q < p
  · have e := lenT_bad (L := texts T) (p := p) (q := q) (Or.inr (Or.inl h2))
    rw [e]; clear e hl hM hR
    go_enter Tryd.func29, Tryd.ntmps29
    go_wp2
    go_ret
    exact ⟨rfl, Below.refl _ _⟩
  have d2 : decide (q < p) = false := by simpa using h2
  by_cases h3 : (n : Int) < q
  · have e := lenT_bad (L := texts T) (p := p) (q := q) (Or.inr (Or.inr (by omega)))
    rw [e]; clear e hl hM hR
    go_enter Tryd.func29, Tryd.ntmps29
    go_wp2
    go_ret
    exact ⟨rfl, Below.refl _ _⟩
  have d3 : decide ((n : Int) < q) = false := by simpa using h3
  obtain ⟨p, rfl⟩ := Int.eq_ofNat_of_zero_le (Int.not_lt.1 h1)
  obtain ⟨q, rfl⟩ := Int.eq_ofNat_of_zero_le (show 0 ≤ q by omega)
  have hpq : p ≤ q := by omega
  have hqn : q ≤ n := by omega
  have HZ := Lib.hid (lenT_good (L := texts T) hpq (by omega))
  generalize lenT (texts T) p q = Z at *
  have hWl : ((texts T).drop p).length = n - p := by rw [List.length_drop]; omega
  have hWl1 : n ≤ ((texts T).drop p).length + p := by omega
  have hWl2 : ((texts T).drop p).length + p ≤ n := by omega
  have hMW : ∀ x ∈ (texts T).drop p, x.length ≤ 140737488355328 := fun x hx => by have := hM x (List.mem_of_mem_drop hx); omega
  have hgW : ∀ m (hm : p ≤ m) (h : m < T.length), ((texts T).drop p).getD (m - p) [] = T[m].1 := by
    intro m hm h
    rw [List.getD_eq_getElem?_getD, List.getElem?_drop, show p + (m - p) = m by omega]
    unfold texts
    rw [List.getElem?_map, List.getElem?_eq_getElem h]; rfl
  have e1 : decide (q < p) = false := by simp; omega
  have e2 : decide (n < q) = false := by simp; omega
  have hn1 : n ≤ T.length := by omega
  have hn2 : T.length ≤ n := by omega
  have hmem : ∀ m (h : m < T.length), T[m].1.length ≤ 1099511627776 := fun m h => hM _ (List.mem_map_of_mem (List.getElem_mem h))
  generalize (texts T).drop p = W at *
  clear hM hn hl hWl
  go_enter Tryd.func29, Tryd.ntmps29
  go_wp2_with fail
  go_loopw [7, 8] (fun s v wx => ∃ m : Nat, v = .int .i64 m ∧ p ≤ m ∧ m ≤ q ∧ s = .int .i64 (sumC (W.take (m - p))) ∧ Below w.heap.size w wx) (fun _ v _ => q - (intOf v).toNat)
  case atStart => exact ⟨p, rfl, Nat.le_refl _, hpq, by simp [sumC], Below.refl _ _⟩
  case round =>
    obtain ⟨m, rfl, hpm, hmq, rfl, hb⟩ := hrel
    have hsz := hb.size
    have SB := sumC_bound (W.take (m - p)) (by rw [List.length_take]; omega) (take_mem hMW)
    by_cases hlt : m < q
    · have hz : (m : Int) < (q : Int) := by omega
      obtain ⟨b, o, rfl, hbl, c0, c1⟩ := (hR.stays hb) m (by omega)
      have HS := Lib.hid (sumC_succ W (m - p) (by omega))
      rw [hgW m hpm (by omega)] at HS
      have hxl := hmem m (by omega)
      have hr := runes_le (T[m]'(by omega)).1
      have cL := fun w => rlen_any (ba (T[m]'(by omega)).1) w (by rw [ba_size]; exact hxl)
      change ∀ w, Calls Tryd.prog 67 #[.string (ba (T[m]'(by omega)).1)] w fun e w' => e = .returned (.int .i64 (lenC (T[m]'(by omega)).1)) ∧ Below w.heap.size w w' at cL
      rw [strV_ba] at c0
      generalize T[m].1 = X at *
      generalize T[m].2 = N at *
      generalize lenC X = LX at *
      generalize sumC (W.take (m - p)) = S at *
      have hidx : m + 1 - p = m - p + 1 := by omega
      have HI := Lib.hid hidx
      clear hidx
      by_cases h0 : p < m
      · have h0z : (p : Int) < (m : Int) := by omega
        have R : Hid (S + 1 + LX = sumC (W.take (m + 1 - p))) := by
          rw [HI.out, HS.out, if_pos (by omega)]; exact Lib.hid rfl
        clear HS
        go_wp2_with (go_at_call 67; refine (cL _).mono ?_; rintro e w2 ⟨rfl, hb2⟩)
        go_roundw
        case rel => exact ⟨m + 1, by go_num, by omega, by omega, by rw [R.out], below_grow hb hsz hb2⟩
        case measure => simp [intOf]; omega
      · have h0z : ¬ (p : Int) < (m : Int) := by omega
        have R : Hid (S + LX = sumC (W.take (m + 1 - p))) := by
          rw [HI.out, HS.out, if_neg (by omega)]; exact Lib.hid rfl
        clear HS
        go_wp2_with (go_at_call 67; refine (cL _).mono ?_; rintro e w2 ⟨rfl, hb2⟩)
        go_roundw
        case rel => exact ⟨m + 1, by go_num, by omega, by omega, by rw [R.out], below_grow hb hsz hb2⟩
        case measure => simp [intOf]; omega
    · obtain rfl : m = q := by omega
      have hz : ¬ (m : Int) < (m : Int) := by omega
      go_wp2_with fail
      go_ret
      exact ⟨ret_int HZ.out.symm, hb⟩
theorem sp_step (X : List UInt8) (i : Nat) (h : i < X.length) : (X.drop i).contains 32 = (decide ((X.getD i 0).toNat = 32) || (X.drop (i + 1)).contains 32) := by
  rw [List.drop_eq_getElem_cons h, List.getD_eq_getElem?_getD, List.getElem?_eq_getElem h, List.contains_cons]
  congr 1
  exact Bool.eq_iff_iff.2 (by simp [← UInt8.toNat_inj]; exact eq_comm)
set_option maxHeartbeats 4000000 in
set_option maxRecDepth 100000 in
theorem rcheck_any (a : Option Addr) (n c : Nat) (T : List Tk) (w : World) (hn : n = T.length) (hN : n ≤ 1000) (hM : ∀ x ∈ texts T, x.length < 4294967281) (hR : RdT w a T) :
    Calls Tryd.prog 28 #[.slice a n c] w fun e w' => e = .returned (.int .i64 (checkT T)) ∧ Below w.heap.size w w' := by
  by_cases h200 : 200 < n
  · have e : checkT T = 9 := by unfold checkT; rw [if_pos (by omega)]
    rw [e]
    have hz : (200 : Int) < (n : Int) := by omega
    clear hn hM hR e
    go_enter Tryd.func28, Tryd.ntmps28
    go_wp2
    go_ret
    exact ⟨rfl, Below.refl _ _⟩
  have hz2 : ¬ (200 : Int) < (n : Int) := by omega
  have HZ : Hid (checkT T = firstE (T.drop 0)) := by unfold checkT; rw [if_neg (by omega)]; exact Lib.hid rfl
  generalize checkT T = Z at *
  have hn1 : n ≤ T.length := by omega
  have hn2 : T.length ≤ n := by omega
  have Hn := Lib.hid hn
  clear hn h200
  go_enter Tryd.func28, Tryd.ntmps28
  go_wp2_with fail
  go_loopw [11] (fun v wx => ∃ k : Nat, v = .int .i64 k ∧ k ≤ n ∧ Hid (Z = firstE (T.drop k)) ∧ Below w.heap.size w wx) (fun v _ => n - (intOf v).toNat)
  case atStart => exact ⟨0, rfl, Nat.zero_le _, HZ, Below.refl _ _⟩
  case round =>
    clear HZ
    obtain ⟨k, rfl, hk, HZ, hb⟩ := hrel
    have hsz := hb.size
    by_cases hlt : k < n
    · have hz : (k : Int) < (n : Int) := by omega
      obtain ⟨b, o, rfl, hbl, c0, c1⟩ := (hR.stays hb) k (by omega)
      have HS := Lib.hid (firstE_step T k (by omega))
      have hxl : (T[k]'(by omega)).1.length < 4294967281 := hM _ (List.mem_map_of_mem (List.getElem_mem _))
      have e0 := @tokE_empty (T[k]'(by omega))
      have e1 := @tokE_space (T[k]'(by omega))
      have e2 := @tokE_char (T[k]'(by omega))
      have e3 := @tokE_range (T[k]'(by omega))
      have cV := fun w => rvalid_any (ba (T[k]'(by omega)).1) w
      rw [show (ba (T[k]'(by omega)).1).data.toList = (T[k]'(by omega)).1 from rfl] at cV
      have he := empty_ba (T[k]'(by omega)).1
      rw [strV_ba] at c0
      generalize hX : T[k].1 = X at *
      generalize hNN : T[k].2 = N at *
      clear hX hNN
      generalize tokE T[k] = E at *
      have hbA := hb.alloc hsz (.cells #[.string (ba X), .int .i64 N] 30)
      have hszA := hbA.size
      have hq0 : (wr.alloc (.cells #[.string (ba X), .int .i64 N] 30)).cell? ⟨wr.heap.size, 0, none⟩ = some (.string (ba X)) := by rw [World.cell?_alloc_new]; rfl
      have hq1 : (wr.alloc (.cells #[.string (ba X), .int .i64 N] 30)).cell? ⟨wr.heap.size, 1, none⟩ = some (.int .i64 N) := by rw [World.cell?_alloc_new]; rfl
      have hql : wr.heap.size < (wr.alloc (.cells #[.string (ba X), .int .i64 N] 30)).heap.size := by simp
      clear hb hsz
      have stop : ∀ v : Int, E = v → v ≠ 0 → Hid (Z = v) := fun v h1 h2 => by rw [HZ.out, HS.out, h1, if_neg h2]; exact Lib.hid rfl
      have goon : E = 0 → Hid (Z = firstE (T.drop (k + 1))) := fun h1 => by rw [HZ.out, HS.out, if_pos h1]; exact Lib.hid rfl
      clear HZ HS
      by_cases hx0 : X = []
      · have S := stop 4 (e0 hx0) (by decide)
        have x1 : (ba X).toList = [] := by rw [ba_list]; exact hx0
        clear stop goon e0 e1 e2 e3 he hx0 cV
        go_wp2_with fail
        go_ret
        exact ⟨ret_int S.out.symm, hbA⟩
      · have x1 : (ba X).toList.isEmpty = false := by rw [he]; simpa using hx0
        have x2 : ¬ (ba X).toList = [] := by rw [ba_list]; exact hx0
        have HE := Lib.hid (⟨e1, e2 hx0, e3 hx0⟩ : (X.contains 32 = true → E = 4) ∧ (X.contains 32 = false → validC X = false → E = 10) ∧ (X.contains 32 = false → validC X = true → E = if N < 0 ∨ 5 < N then 2 else 0))
        have HST := Lib.hid stop
        have HGO := Lib.hid goon
        have HX0 := Lib.hid hx0
        have hszX := ba_size X
        have hX1 : (ba X).size ≤ X.length := by omega
        have hX2 : X.length ≤ (ba X).size := by omega
        have hix := idx_str (ba X)
        rw [show (ba X).data.toList = X from rfl] at hix
        clear e0 e1 e2 e3 he hx0 hszX stop goon
        go_upto_block 2 with fail
        generalize wr.alloc (.cells #[.string (ba X), .int .i64 N] 30) = W1 at *
        generalize wr.heap.size = G at *
        go_wp2_with fail
        go_loop [5] (fun v => ∃ i : Nat, v = .int .i64 i ∧ i ≤ X.length ∧ Hid ((X.drop i).contains 32 = X.contains 32)) (fun v => X.length - (intOf v).toNat)
        case atStart => exact ⟨0, rfl, Nat.zero_le _, Lib.hid (by rw [List.drop_zero])⟩
        case round =>
          obtain ⟨i, rfl, hi, HI⟩ := hrel
          by_cases hil : i < X.length
          · have hzi : (i : Int) < ((ba X).size : Int) := by omega
            have hix1 := hix i (by omega)
            have hst := sp_step X i hil
            by_cases h32 : (X.getD i 0).toNat = 32
            · rw [h32] at hst
              have S : Hid (Z = 4) := HST.out 4 (HE.out.1 (by rw [← HI.out, hst]; rfl)) (by decide)
              rw [h32] at hix1
              clear hst h32 HI hix
              go_wp2_with fail
              go_ret
              exact ⟨ret_int S.out.symm, hbA⟩
            · have HI2 : Hid ((X.drop (i + 1)).contains 32 = X.contains 32) := by
                rw [← HI.out, hst, decide_eq_false h32, Bool.false_or]; exact Lib.hid rfl
              clear hst HI hix
              generalize (X.getD i 0).toNat = y at *
              have hy : ((y : Int) == 32) = false := by simp; omega
              go_wp2_with fail
              go_round
              case rel => exact ⟨i + 1, by go_num, by omega, HI2⟩
              case measure => simp [intOf]; omega
          · have hsp : X.contains 32 = false := by
              obtain rfl : i = X.length := by omega
              rw [← HI.out, List.drop_length]; rfl
            have hzi : ¬ (i : Int) < ((ba X).size : Int) := by omega
            clear HI hix
            cases hv : validC X
            · have S : Hid (Z = 10) := HST.out 10 (HE.out.2.1 hsp hv) (by decide)
              rw [hv] at cV
              have cV1 := cV W1
              clear hsp hv cV
              go_wp2_with fail
              refine cV1.mono ?_
              rintro e w2 ⟨rfl, hb2⟩
              go_wp2_with fail
              go_ret
              exact ⟨ret_int S.out.symm, below_grow hbA hszA hb2⟩
            · have e4 := HE.out.2.2 hsp hv
              rw [hv] at cV
              have cV1 := cV W1
              clear hsp hv cV
              by_cases hn0 : N < 0
              · have S : Hid (Z = 2) := HST.out 2 (by rw [e4, if_pos (Or.inl hn0)]) (by decide)
                clear e4
                go_wp2_with fail
                refine cV1.mono ?_
                rintro e w2 ⟨rfl, hb2⟩
                have q1 : w2.cell? ⟨G, 1, none⟩ = some (.int .i64 N) := (hb2.cell (p := ⟨G, 1, none⟩) hql).trans hq1
                have hbB := below_grow hbA hszA hb2
                clear hbA hb2 cV1
                go_wp2_with fail
                go_ret
                exact ⟨ret_int S.out.symm, hbB⟩
              · have d0 : decide (N < 0) = false := by simpa using hn0
                by_cases hn5 : 5 < N
                · have S : Hid (Z = 2) := HST.out 2 (by rw [e4, if_pos (Or.inr hn5)]) (by decide)
                  clear e4
                  go_wp2_with fail
                  refine cV1.mono ?_
                  rintro e w2 ⟨rfl, hb2⟩
                  have q1 : w2.cell? ⟨G, 1, none⟩ = some (.int .i64 N) := (hb2.cell (p := ⟨G, 1, none⟩) hql).trans hq1
                  have hbB := below_grow hbA hszA hb2
                  clear hbA hb2 cV1
                  go_wp2_with fail
                  go_ret
                  exact ⟨ret_int S.out.symm, hbB⟩
                · have S := HGO.out (by rw [e4, if_neg (by omega)])
                  have d5 : decide (5 < N) = false := by simpa using hn5
                  clear e4
                  go_wp2_with fail
                  refine cV1.mono ?_
                  rintro e w2 ⟨rfl, hb2⟩
                  have q1 : w2.cell? ⟨G, 1, none⟩ = some (.int .i64 N) := (hb2.cell (p := ⟨G, 1, none⟩) hql).trans hq1
                  have hbB := below_grow hbA hszA hb2
                  clear hbA hb2 cV1
                  go_wp2_with fail
                  go_roundw
                  case rel => exact ⟨k + 1, by go_num, by omega, S, hbB⟩
                  case measure => simp [intOf]; omega
    · obtain rfl : k = n := by omega
      have hz : ¬ (k : Int) < (k : Int) := by omega
      have HF : Hid (Z = 0) := by rw [HZ.out, Hn.out, firstE_end]; exact Lib.hid rfl
      go_wp2_with fail
      go_ret
      exact ⟨ret_int HF.out.symm, hb⟩
end Go.Proofs.YtheemefggkcfbaaDoor
