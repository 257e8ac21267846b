import Derived.Test.YtheemefggkcfbaaDoorT18
namespace Go.Proofs.YtheemefggkcfbaaDoor
open Go Go.Lib Go.RowKit Go.Shelf
/-- The error of one token. -/
def tokE (x : Tk) : Int := if x.1 = [] ∨ x.1.contains 32 = true then 4 else if validC x.1 = true then (if x.2 < 0 ∨ 5 < x.2 then 2 else 0) else 10
def firstE : List Tk → Int
  | [] => 0
  | x :: r => if tokE x = 0 then firstE r else tokE x
/-- Check of token. -/
def checkT (T : List Tk) : Int := if 200 < T.length then 9 else firstE T
theorem firstE_step (T : List Tk) (k : Nat) (h : k < T.length) : firstE (T.drop k) = if tokE T[k] = 0 then firstE (T.drop (k + 1)) else tokE T[k] := by
  rw [List.drop_eq_getElem_cons h]; rfl
theorem firstE_end (T : List Tk) : firstE (T.drop T.length) = 0 := by rw [List.drop_length]; rfl
theorem index_space : ∀ l : List UInt8, 0 ≤ Lib.index l [32] ↔ (32 : UInt8) ∈ l
  | [] => by simp [Lib.index]
  | b :: l => by
    have ih := index_space l
    have hg := Lib.index_ge l [32]
    unfold Lib.index
    by_cases h : (32 : UInt8) = b
    · subst h; simp
    · have e : ([32] : List UInt8).isPrefixOf (b :: l) = false := by simp [List.isPrefixOf, h]
      rw [e, if_neg (by simp), List.mem_cons]
      by_cases h2 : Lib.index l [32] = -1
      · rw [h2] at ih ⊢
        simp only [beq_self_eq_true, if_true]
        constructor
        · intro h3; omega
        · rintro (h3 | h3)
          · exact absurd h3 h
          · have := ih.2 h3; omega
      · rw [if_neg (by simpa using h2)]
        constructor
        · intro h3; exact Or.inr (ih.1 (by omega))
        · rintro (h3 | h3)
          · exact absurd h3 h
          · have := ih.2 h3; omega
theorem contains_space (l : List UInt8) : Lib.contains l [32] = l.contains 32 := by
  unfold Lib.contains
  exact Bool.eq_iff_iff.2 (by rw [decide_eq_true_iff, index_space]; simp)
theorem tokE_empty {x : Tk} (h : x.1 = []) : tokE x = 4 := by unfold tokE; rw [if_pos (Or.inl h)]
theorem tokE_space {x : Tk} (h : x.1.contains 32 = true) : tokE x = 4 := by unfold tokE; rw [if_pos (Or.inr h)]
theorem tokE_char {x : Tk} (h0 : x.1 ≠ []) (h : x.1.contains 32 = false) (hv : validC x.1 = false) : tokE x = 10 := by
  unfold tokE; rw [if_neg (by rintro (h1 | h1); exact h0 h1; rw [h] at h1; cases h1), hv]; rfl
theorem tokE_range {x : Tk} (h0 : x.1 ≠ []) (h : x.1.contains 32 = false) (hv : validC x.1 = true) : tokE x = if x.2 < 0 ∨ 5 < x.2 then 2 else 0 := by
  unfold tokE; rw [if_neg (by rintro (h1 | h1); exact h0 h1; rw [h] at h1; cases h1), if_pos hv]
theorem empty_ba (l : List UInt8) : (ba l).toList.isEmpty = l.isEmpty := by rw [ba_list]
set_option maxHeartbeats 4000000 in
set_option maxRecDepth 100000 in
theorem check_any (a : Option Addr) (n c : Nat) (T : List Tk) (w : World) (hn : n = T.length) (hN : n ≤ 1000) (hM : ∀ x ∈ texts T, x.length < 4294967281) (hE : Env w) (hR : RdT w a T) :
    Calls Tryd.prog 27 #[.slice a n c] w fun e w' => e = .returned (.int .i64 (checkT T)) ∧ Below w.heap.size w w' := by
  by_cases h200 : 200 < n
  · have e : checkT T = 9 := by unfold checkT; rw [if_pos (by omega)]
    rw [e]
    have hz : (200 : Int) < (n : Int) := by omega
    clear hn hM hR e
    go_enter Tryd.func27, Tryd.ntmps27
    go_wp2
    go_ret
    exact ⟨rfl, Below.refl _ _⟩
  have hz2 : ¬ (200 : Int) < (n : Int) := by omega
  have HZ : Hid (checkT T = firstE (T.drop 0)) := by unfold checkT; rw [if_neg (by omega)]; exact Lib.hid rfl
  generalize checkT T = Z at *
  have hn1 : n ≤ T.length := by omega
  have hn2 : T.length ≤ n := by omega
  have Hn := Lib.hid hn
  clear hn h200
  go_enter Tryd.func27, Tryd.ntmps27
  go_wp2_with fail
  go_loopw [10] (fun v wx => ∃ k : Nat, v = .int .i64 k ∧ k ≤ n ∧ Hid (Z = firstE (T.drop k)) ∧ Below w.heap.size w wx) (fun v _ => n - (intOf v).toNat)
  case atStart => exact ⟨0, rfl, Nat.zero_le _, HZ, Below.refl _ _⟩
  case round =>
    clear HZ
    obtain ⟨k, rfl, hk, HZ, hb⟩ := hrel
    have hsz := hb.size
    by_cases hlt : k < n
    · have hz : (k : Int) < (n : Int) := by omega
      obtain ⟨b, o, rfl, hbl, c0, c1⟩ := (hR.stays hb) k (by omega)
      have HS := Lib.hid (firstE_step T k (by omega))
      have hxl : (T[k]'(by omega)).1.length < 4294967281 := hM _ (List.mem_map_of_mem (List.getElem_mem _))
      have e0 := @tokE_empty (T[k]'(by omega))
      have e1 := @tokE_space (T[k]'(by omega))
      have e2 := @tokE_char (T[k]'(by omega))
      have e3 := @tokE_range (T[k]'(by omega))
      have cV := fun w hE => valid_any (ba (T[k]'(by omega)).1) w (by rw [ba_size]; omega) hE
      have cC := fun m w hm => Tryd.strings_Contains (ba (T[k]'(by omega)).1) ⟨#[32]⟩ m w (by rw [ba_size]; exact hxl) hm
      rw [show (ba (T[k]'(by omega)).1).data.toList = (T[k]'(by omega)).1 from rfl] at cV
      rw [show (ba (T[k]'(by omega)).1).data.toList = (T[k]'(by omega)).1 from rfl, show ((⟨#[32]⟩ : ByteArray).data.toList) = [32] from rfl, contains_space] at cC
      have he := empty_ba (T[k]'(by omega)).1
      rw [strV_ba] at c0
      generalize hX : T[k].1 = X at *
      generalize hNN : T[k].2 = N at *
      clear hX hNN
      generalize tokE T[k] = E at *
      have hbA := hb.alloc hsz (.cells #[.string (ba X), .int .i64 N] 30)
      have hszA := hbA.size
      have hEA := hE.below hbA
      clear hb hsz
      obtain ⟨m, hm⟩ := hEA.maxl
      have cC1 := cC m _ hm
      have stop : ∀ v : Int, E = v → v ≠ 0 → Hid (Z = v) := fun v h1 h2 => by rw [HZ.out, HS.out, h1, if_neg h2]; exact Lib.hid rfl
      have goon : E = 0 → Hid (Z = firstE (T.drop (k + 1))) := fun h1 => by rw [HZ.out, HS.out, if_pos h1]; exact Lib.hid rfl
      clear HZ HS cC
      by_cases hx0 : X = []
      · have S := stop 4 (e0 hx0) (by decide)
        have x1 : (ba X).toList = [] := by rw [ba_list]; exact hx0
        clear stop goon e0 e1 e2 e3 he hx0 cC1 cV
        go_wp2_with fail
        go_ret
        exact ⟨ret_int S.out.symm, hbA⟩
      · have x1 : (ba X).toList.isEmpty = false := by rw [he]; simpa using hx0
        have x2 : ¬ (ba X).toList = [] := by rw [ba_list]; exact hx0
        cases hsp : X.contains 32
        · rw [hsp] at cC1
          cases hv : validC X
          · have S := stop 10 (e2 hx0 hsp hv) (by decide)
            rw [hv] at cV
            have cV1 := cV _ hEA
            clear stop goon e0 e1 e2 e3 he hx0 hsp hv cV
            go_wp2_with fail
            refine cC1.mono ?_
            rintro e w2 ⟨rfl, rfl⟩
            go_wp2_with fail
            refine cV1.mono ?_
            rintro e w2 ⟨rfl, hb2⟩
            go_wp2_with fail
            go_ret
            exact ⟨ret_int S.out.symm, below_grow hbA hszA hb2⟩
          · have e4 := e3 hx0 hsp hv
            rw [hv] at cV
            have cV1 := cV _ hEA
            by_cases hn0 : N < 0
            · have S := stop 2 (by rw [e4, if_pos (Or.inl hn0)]) (by decide)
              clear stop goon e0 e1 e2 e3 e4 he hx0 hsp hv cV
              go_wp2_with fail
              refine cC1.mono ?_
              rintro e w2 ⟨rfl, rfl⟩
              go_wp2_with fail
              refine cV1.mono ?_
              rintro e w2 ⟨rfl, hb2⟩
              have q1 : w2.cell? ⟨wr.heap.size, 1, none⟩ = some (.int .i64 N) := (hb2.cell (p := ⟨wr.heap.size, 1, none⟩) (by simp)).trans (by rw [World.cell?_alloc_new]; rfl)
              have hbB := below_grow hbA hszA hb2
              clear hbA hb2 cC1 cV1
              go_wp2_with fail
              go_ret
              exact ⟨ret_int S.out.symm, hbB⟩
            · have d0 : decide (N < 0) = false := by simpa using hn0
              by_cases hn5 : 5 < N
              · have S := stop 2 (by rw [e4, if_pos (Or.inr hn5)]) (by decide)
                clear stop goon e0 e1 e2 e3 e4 he hx0 hsp hv cV
                go_wp2_with fail
                refine cC1.mono ?_
                rintro e w2 ⟨rfl, rfl⟩
                go_wp2_with fail
                refine cV1.mono ?_
                rintro e w2 ⟨rfl, hb2⟩
                have q1 : w2.cell? ⟨wr.heap.size, 1, none⟩ = some (.int .i64 N) := (hb2.cell (p := ⟨wr.heap.size, 1, none⟩) (by simp)).trans (by rw [World.cell?_alloc_new]; rfl)
                have hbB := below_grow hbA hszA hb2
                clear hbA hb2 cC1 cV1
                go_wp2_with fail
                go_ret
                exact ⟨ret_int S.out.symm, hbB⟩
              · have S := goon (by rw [e4, if_neg (by omega)])
                have d5 : decide (5 < N) = false := by simpa using hn5
                clear stop goon e0 e1 e2 e3 e4 he hx0 hsp hv cV
                go_wp2_with fail
                refine cC1.mono ?_
                rintro e w2 ⟨rfl, rfl⟩
                go_wp2_with fail
                refine cV1.mono ?_
                rintro e w2 ⟨rfl, hb2⟩
                have q1 : w2.cell? ⟨wr.heap.size, 1, none⟩ = some (.int .i64 N) := (hb2.cell (p := ⟨wr.heap.size, 1, none⟩) (by simp)).trans (by rw [World.cell?_alloc_new]; rfl)
                have hbB := below_grow hbA hszA hb2
                clear hbA hb2 cC1 cV1
                go_wp2_with fail
                go_roundw
                case rel => exact ⟨k + 1, by go_num, by omega, S, hbB⟩
                case measure => simp [intOf]; omega
        · rw [hsp] at cC1
          have S := stop 4 (e1 hsp) (by decide)
          clear stop goon e0 e1 e2 e3 he hx0 hsp cV
          go_wp2_with fail
          refine cC1.mono ?_
          rintro e w2 ⟨rfl, rfl⟩
          go_wp2_with fail
          go_ret
          exact ⟨ret_int S.out.symm, hbA⟩
    · obtain rfl : k = n := by omega
      have hz : ¬ (k : Int) < (k : Int) := by omega
      have HF : Hid (Z = 0) := by rw [HZ.out, Hn.out, firstE_end]; exact Lib.hid rfl
      go_wp2_with fail
      go_ret
      exact ⟨ret_int HF.out.symm, hb⟩
end Go.Proofs.YtheemefggkcfbaaDoor
