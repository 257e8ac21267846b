import Derived.Test.YtgiaohccebolpaaGreatDoorQ12
import Derived.Lib.MapLaws
import Derived.Laws.Runes
import Derived.WalkMore
namespace Go.Proofs.YtgiaohccebolpaaGreatDoor
open Go Go.RowKit
open Go.Lib hiding intOf
set_option linter.unusedVariables false
/-! ### numerals and clocks -/
theorem grow_ok (B : Nat) (w : World) (hB : B ≤ w.heap.size) (k : Nat) (os : Array Obj) : Below B w (Sort.grow (w.drewN k) os) := 
  ⟨rfl, rfl, rfl, by show w.heap.size ≤ (w.heap ++ os).size; rw [Array.size_append]; omega, fun j hj => by show (w.heap ++ os)[j]? = w.heap[j]?; exact Array.getElem?_append_left (by omega)⟩
set_option maxHeartbeats 4000000 in
set_option maxRecDepth 100000 in
theorem decimal_any (n : Nat) (hn : n < 1000000) (w : World) (hE : Env w) :
    Calls Tryz.prog 53 #[.int .i64 (n : Int)] w fun e w' => e = .returned (.string ⟨(Lib.decDigits n).toArray⟩) ∧ Below w.heap.size w w' := by
  have c := Tryz.strconv_FormatInt_10 (n : Int) (by omega) (by omega) w hE.pow
  rw [show Lib.itoa (n : Int) = Lib.decDigits n by unfold Lib.itoa; rw [if_neg (by omega)]; simp] at c
  generalize Lib.decDigits n = L at *
  go_enter Tryz.func53, Tryz.ntmps53
  go_wp2_with fail
  refine c.mono ?_
  rintro e w1 ⟨rfl, k, os, rfl⟩
  have hb := grow_ok w.heap.size w (Nat.le_refl _) k os
  generalize Sort.grow (w.drewN k) os = W at *
  go_wp2_with fail
  go_ret
  exact ⟨rfl, hb⟩
def pad (n : Nat) (l : List UInt8) : List UInt8 := List.replicate (n - l.length) 48 ++ l
theorem pad_done {n : Nat} {l : List UInt8} (h : n ≤ l.length) : pad n l = l := by unfold pad; rw [Nat.sub_eq_zero_of_le h]; rfl
theorem pad_more {n : Nat} {l : List UInt8} (h : l.length < n) : pad n (48 :: l) = pad n l := by
  unfold pad
  obtain ⟨k, hk⟩ : ∃ k, n - l.length = k + 1 := ⟨n - l.length - 1, by omega⟩
  rw [hk, show n - (48 :: l : List UInt8).length = k by simp; omega, List.replicate_succ', List.append_assoc]; rfl
def d2 (v : Nat) : List UInt8 := [UInt8.ofNat (48 + v / 10), UInt8.ofNat (48 + v % 10)]
def d3 (v : Nat) : List UInt8 := [UInt8.ofNat (48 + v / 100), UInt8.ofNat (48 + v / 10 % 10), UInt8.ofNat (48 + v % 10)]
theorem pad_d2 {v : Nat} (h : v < 100) : pad 2 (Lib.decDigits v) = d2 v := by
  by_cases h1 : v < 10
  · rw [Lib.decDigits_one h1]
    unfold d2
    rw [Nat.div_eq_of_lt h1, Nat.mod_eq_of_lt h1]; rfl
  · rw [Lib.decDigits_two h1 h]; rfl
theorem pad_d3 {v : Nat} (h : v < 1000) : pad 3 (Lib.decDigits v) = d3 v := by
  by_cases h1 : v < 10
  · rw [Lib.decDigits_one h1]
    unfold d3
    rw [Nat.div_eq_of_lt (show v < 100 by omega), Nat.div_eq_of_lt h1, Nat.mod_eq_of_lt h1]; rfl
  by_cases h2 : v < 100
  · rw [Lib.decDigits_two h1 h2]
    unfold d3
    rw [Nat.div_eq_of_lt h2, show v / 10 % 10 = v / 10 by omega]; rfl
  · rw [Lib.decDigits, dif_neg h1, Lib.decDigits_two (by omega) (by omega)]
    unfold d3
    rw [show v / 10 / 10 = v / 100 by omega]; rfl
theorem lit48 (s : ByteArray) : ((⟨#[48]⟩ : ByteArray) ++ s).data.toList = 48 :: s.data.toList := by
  have h := ba_app [48] s.data.toList
  rw [ba_of] at h
  exact congrArg (fun z => z.data.toList) h
def szOf : Value → Nat
  | .string t => t.size
  | _ => 0
set_option maxHeartbeats 4000000 in
set_option maxRecDepth 100000 in
theorem digits_any (v n : Nat) (hv : v < 1000) (hn : n ≤ 3) (w : World) (hE : Env w) :
    Calls Tryz.prog 85 #[.int .i64 (v : Int), .int .i64 (n : Int)] w fun e w' => e = .returned (.string ⟨(pad n (Lib.decDigits v)).toArray⟩) ∧ Below w.heap.size w w' := by
  have c := fun w' (hE : Env w') => decimal_any v (by omega) w' hE
  obtain ⟨s, hs⟩ : ∃ s : ByteArray, s.data.toList = Lib.decDigits v := ⟨⟨(Lib.decDigits v).toArray⟩, by simp⟩
  have hsl : s.size ≤ 3 := by
    have : s.size = (Lib.decDigits v).length := by rw [← hs, ← ba_size, ba_of]
    rw [this]
    by_cases h1 : v < 10
    · rw [Lib.decDigits_one h1]; simp
    by_cases h2 : v < 100
    · rw [Lib.decDigits_two h1 h2]; simp
    · rw [Lib.decDigits, dif_neg h1, Lib.decDigits_two (by omega) (by omega)]; simp
  have e : (⟨(Lib.decDigits v).toArray⟩ : ByteArray) = s := by rw [← hs]
  rw [e] at c
  rw [← hs]
  clear hs e
  obtain ⟨Z, hZ⟩ : ∃ Z, pad n s.data.toList = Z := ⟨_, rfl⟩
  rw [hZ]
  go_enter Tryz.func85, Tryz.ntmps85
  go_wp2_with fail
  refine (c _ hE).mono ?_
  rintro e w1 ⟨rfl, hb⟩
  clear c
  go_wp2_with fail
  go_loopw [5] (fun v wx => ∃ t : ByteArray, v = .string t ∧ t.size ≤ 3 ∧ pad n t.data.toList = Z ∧ wx = w1) (fun v _ => 3 - szOf v)
  case atStart => exact ⟨s, rfl, hsl, hZ, rfl⟩
  case round =>
    obtain ⟨t, rfl, ht, hp, rfl⟩ := hrel
    by_cases hl : t.size < n
    · have hlz : (t.size : Int) < (n : Int) := by omega
      have hov : ¬ ((⟨#[48]⟩ : ByteArray).size + t.size > 9223372036854775807) := by
        have : (⟨#[48]⟩ : ByteArray).size = 1 := rfl
        omega
      go_wp2_with fail
      go_roundw
      case rel =>
        refine ⟨_, rfl, ?_, ?_, trivial⟩
        · rw [ByteArray.size_append]; have : (⟨#[48]⟩ : ByteArray).size = 1 := rfl; omega
        · rw [lit48, pad_more (by rw [← ba_size, ba_of]; omega)]; exact hp
      case measure =>
        simp only [szOf, ByteArray.size_append]
        have : (⟨#[48]⟩ : ByteArray).size = 1 := rfl
        omega
    · have hlz : ¬ (t.size : Int) < (n : Int) := by omega
      go_wp2_with fail
      go_ret
      exact ⟨by rw [← hp, pad_done (by rw [← ba_size, ba_of]; omega)]; rfl, hb⟩
def clk (m : Nat) : List UInt8 := d2 (m / 1000 / 3600) ++ [58] ++ d2 (m / 1000 / 60 % 60) ++ [58] ++ d2 (m / 1000 % 60) ++ [44] ++ d3 (m % 1000)
set_option maxHeartbeats 4000000 in
set_option maxRecDepth 100000 in
theorem clock_any (m : Nat) (hm : m ≤ 359999999) (w : World) (hE : Env w) :
    Calls Tryz.prog 52 #[.int .i64 (m : Int)] w fun e w' => e = .returned (.tuple #[.string ⟨(clk m).toArray⟩, .int .i64 0]) ∧ Below w.heap.size w w' := by
  have cd2 : ∀ (v : Nat) (w : World), v < 100 → Env w → Calls Tryz.prog 85 #[.int .i64 (v : Int), .int .i64 2] w fun e w' => e = .returned (.string (ba (d2 v))) ∧ Below w.heap.size w w' := fun v w hv hE => by
    have c := digits_any v 2 (by omega) (by omega) w hE
    rw [pad_d2 hv] at c; exact c
  have cd3 : ∀ (v : Nat) (w : World), v < 1000 → Env w → Calls Tryz.prog 85 #[.int .i64 (v : Int), .int .i64 3] w fun e w' => e = .returned (.string (ba (d3 v))) ∧ Below w.heap.size w w' := fun v w hv hE => by
    have c := digits_any v 3 (by omega) (by omega) w hE
    rw [pad_d3 hv] at c; exact c
  have hcl : ba (clk m) = ba (d2 (m / 1000 / 3600)) ++ ⟨#[58]⟩ ++ ba (d2 (m / 1000 / 60 % 60)) ++ ⟨#[58]⟩ ++ ba (d2 (m / 1000 % 60)) ++ ⟨#[44]⟩ ++ ba (d3 (m % 1000)) := by
    show _ = ba (d2 (m / 1000 / 3600)) ++ ba [58] ++ ba (d2 (m / 1000 / 60 % 60)) ++ ba [58] ++ ba (d2 (m / 1000 % 60)) ++ ba [44] ++ ba (d3 (m % 1000))
    simp only [ba_app]; rfl
  have c1 := fun w hE => cd2 (m / 1000 / 3600) w (by omega) hE
  have c2 := fun w hE => cd2 (m / 1000 / 60 % 60) w (by omega) hE
  have c3 := fun w hE => cd2 (m / 1000 % 60) w (by omega) hE
  have c4 := fun w hE => cd3 (m % 1000) w (by omega) hE
  have s1 : (ba (d2 (m / 1000 / 3600))).size = 2 := by rw [ba_size]; rfl
  have s2 : (ba (d2 (m / 1000 / 60 % 60))).size = 2 := by rw [ba_size]; rfl
  have s3 : (ba (d2 (m / 1000 % 60))).size = 2 := by rw [ba_size]; rfl
  have s4 : (ba (d3 (m % 1000))).size = 3 := by rw [ba_size]; rfl
  simp only [Int.natCast_ediv, Int.natCast_emod, Int.cast_ofNat_Int] at c1 c2 c3 c4
  have hz0 : ¬ (m : Int) < 0 := by omega
  have hz1 : ¬ (359999999 : Int) < (m : Int) := by omega
  show Calls Tryz.prog 52 #[.int .i64 (m : Int)] w fun e w' => e = .returned (.tuple #[.string (ba (clk m)), .int .i64 0]) ∧ Below w.heap.size w w'
  rw [hcl]
  clear hcl cd2 cd3
  generalize ba (d2 (m / 1000 / 3600)) = A at *
  generalize ba (d2 (m / 1000 / 60 % 60)) = B at *
  generalize ba (d2 (m / 1000 % 60)) = C at *
  generalize ba (d3 (m % 1000)) = D at *
  have o1 : ¬ (A.size + (⟨#[58]⟩ : ByteArray).size > 9223372036854775807) := by rw [s1]; decide
  have o2 : ¬ ((A ++ ⟨#[58]⟩).size + B.size > 9223372036854775807) := by rw [ByteArray.size_append, s1, s2]; decide
  have o3 : ¬ ((A ++ ⟨#[58]⟩ ++ B).size + (⟨#[58]⟩ : ByteArray).size > 9223372036854775807) := by simp only [ByteArray.size_append, s1, s2]; decide
  have o4 : ¬ ((A ++ ⟨#[58]⟩ ++ B ++ ⟨#[58]⟩).size + C.size > 9223372036854775807) := by simp only [ByteArray.size_append, s1, s2, s3]; decide
  have o5 : ¬ ((A ++ ⟨#[58]⟩ ++ B ++ ⟨#[58]⟩ ++ C).size + (⟨#[44]⟩ : ByteArray).size > 9223372036854775807) := by simp only [ByteArray.size_append, s1, s2, s3]; decide
  have o6 : ¬ ((A ++ ⟨#[58]⟩ ++ B ++ ⟨#[58]⟩ ++ C ++ ⟨#[44]⟩).size + D.size > 9223372036854775807) := by simp only [ByteArray.size_append, s1, s2, s3, s4]; decide
  clear s1 s2 s3 s4
  go_enter Tryz.func52, Tryz.ntmps52
  go_wp2_with fail
  refine (c1 _ hE).mono ?_
  rintro e w1 ⟨rfl, hb1⟩
  go_wp2_with fail
  refine (c2 _ (hE.below hb1)).mono ?_
  rintro e w2 ⟨rfl, hb2⟩
  go_wp2_with fail
  refine (c3 _ ((hE.below hb1).below hb2)).mono ?_
  rintro e w3 ⟨rfl, hb3⟩
  go_wp2_with fail
  refine (c4 _ (((hE.below hb1).below hb2).below hb3)).mono ?_
  rintro e w4 ⟨rfl, hb4⟩
  go_wp2_with fail
  go_ret2
  exact ⟨rfl, below_trans (below_trans (below_trans hb1 hb2) hb3) hb4⟩
end Go.Proofs.YtgiaohccebolpaaGreatDoor
namespace Go.Proofs.YtgiaohccebolpaaGreatDoor
open Go Go.RowKit
open Go.Lib hiding intOf
set_option linter.unusedVariables false
/-! ### plain laws on the repertoire's texts -/
theorem getD_app (a b : List UInt8) (k : Nat) (h : k < a.length) : (a ++ b).getD k 0 = a.getD k 0 := by
  simp [List.getD, List.getElem?_append_left h]
theorem decode_app (a b : List UInt8) (hne : a ≠ []) (hv : (decodeL a).1 ≠ 65533) : decodeL (a ++ b) = decodeL a := by
  have hl : 0 < a.length := List.length_pos_iff.2 hne
  rw [decodeL_N] at hv
  rw [decodeL_N, decodeL_N]
  have hlen : (a ++ b).length = a.length + b.length := List.length_append
  have g0 := getD_app a b 0 hl
  rw [g0, hlen]
  rcases decodeN_shape a.length (a.getD 0 0).toNat (a.getD 1 0).toNat (a.getD 2 0).toNat (a.getD 3 0).toNat with ⟨c, e⟩ | ⟨c1, c2, c3, cv, e⟩ | ⟨c1, c2, c3, c4, cv, cs, e⟩ | ⟨c1, c2, c3, c4, c5, cv, cw, e⟩ | e
  · rw [e]
    unfold decodeN
    rw [if_pos c]
  · rw [getD_app a b 1 (by omega), e]
    unfold decodeN
    rw [if_neg (by omega), if_pos ⟨by omega, by omega, by omega⟩, if_pos (by omega)]
  · rw [getD_app a b 1 (by omega), getD_app a b 2 (by omega), e]
    unfold decodeN
    rw [if_neg (by omega), if_neg (by omega), if_pos ⟨by omega, ⟨by omega, by omega⟩, by omega, by omega⟩, if_pos ⟨by omega, by omega⟩]
  · rw [getD_app a b 1 (by omega), getD_app a b 2 (by omega), getD_app a b 3 (by omega), e]
    unfold decodeN
    rw [if_neg (by omega), if_neg (by omega), if_neg (by omega), if_pos ⟨by omega, ⟨by omega, by omega⟩, ⟨by omega, by omega⟩, by omega, by omega⟩, if_pos ⟨by omega, by omega⟩]
  · rw [e] at hv; exact absurd rfl hv
theorem inR_ne {r : Nat} (h : inR r = true) : r ≠ 65533 := by
  rintro rfl; rw [inR_bad] at h; cases h
theorem valid_nil : validC [] = true := rfl
theorem valid_head {l : List UInt8} (hne : l ≠ []) (h : validC l = true) : inR (decodeL l).1 = true ∧ validC (l.drop (decodeL l).2) = true := by
  unfold validC at h ⊢
  rw [runes_step _ hne] at h
  simpa using h
theorem runes_app_n : ∀ (n : Nat) (a b : List UInt8), a.length ≤ n → validC a = true → runes (a ++ b) = runes a ++ runes b
  | n, [], b, _, _ => rfl
  | 0, _ :: _, _, h, _ => by simp at h
  | n + 1, x :: t, b, hl, h => by
    have hne : x :: t ≠ [] := by simp
    obtain ⟨h1, h2⟩ := valid_head hne h
    have hw := decodeL_width (x :: t)
    have hle := decodeL_le (x :: t) hne
    rw [runes_step _ hne, runes_step _ (by simp), decode_app _ b hne (inR_ne h1), List.drop_append_of_le_length hle, runes_app_n n _ b (by rw [List.length_drop]; simp at hl ⊢; omega) h2]
    rfl
theorem runes_app {a b : List UInt8} (h : validC a = true) : runes (a ++ b) = runes a ++ runes b := runes_app_n a.length a b (Nat.le_refl _) h
theorem valid_app {a b : List UInt8} (h : validC a = true) : validC (a ++ b) = validC b := by
  unfold validC at h ⊢
  rw [runes_app (by unfold validC; exact h), List.all_append, h, Bool.true_and]
def encR (r : Nat) : List UInt8 := Lib.encodeRune (r : Int)
theorem flat_n : ∀ (n : Nat) (l : List UInt8), l.length ≤ n → validC l = true → (runes l).flatMap encR = l
  | n, [], _, _ => rfl
  | 0, _ :: _, h, _ => by simp at h
  | n + 1, x :: t, hl, h => by
    have hne : x :: t ≠ [] := by simp
    obtain ⟨h1, h2⟩ := valid_head hne h
    have hw := decodeL_width (x :: t)
    have h3 := encode_decode (x :: t) hne (fun e => inR_ne h1 e.1)
    rw [runes_step _ hne, List.flatMap_cons, flat_n n _ (by rw [List.length_drop]; simp at hl ⊢; omega) h2]
    show encodeRune _ ++ _ = _
    rw [h3, List.take_append_drop]
theorem flat {l : List UInt8} (h : validC l = true) : (runes l).flatMap encR = l := flat_n l.length l (Nat.le_refl _) h
def okR (r : Nat) : Bool := (decide (32 ≤ r) && decide (r ≤ 126) && encR r == [UInt8.ofNat r]) || (decide (128 ≤ r) && decide (r ≤ 65535) && decide (r ≠ 65533) && Lib.validRune (r : Int) && ((encR r).length == 2 || (encR r).length == 3) && (encR r).all (fun b => decide (128 ≤ b.toNat)))
theorem okR_reps : ∀ r ∈ runes allL, okR r = true := by decide +kernel
theorem okR_low : ∀ r : Fin 127, 32 ≤ r.val → okR r.val = true := by decide +kernel
theorem findR_mem : ∀ (l : List Nat) (r : Nat) (n : Int), 0 ≤ n → 0 ≤ findR l r n → r ∈ l
  | [], r, n, _, h => by simp [findR] at h
  | x :: t, r, n, hn, h => by
    unfold findR at h
    by_cases e : (x : Int) = r
    · have : x = r := by omega
      rw [this]; exact List.mem_cons_self
    · rw [if_neg e] at h
      exact List.mem_cons_of_mem _ (findR_mem t r (n + 1) (by omega) h)
theorem inR_ok {r : Nat} (h : inR r = true) : okR r = true := by
  unfold inR idxR at h
  have h := of_decide_eq_true h
  by_cases hc : 32 ≤ (r : Int) ∧ (r : Int) ≤ 126
  · exact okR_low ⟨r, by omega⟩ (by show 32 ≤ r; omega)
  · rw [if_neg hc] at h
    exact okR_reps r (findR_mem _ r 0 (by omega) h)
theorem inR_two {r : Nat} (h : inR r = true) : (32 ≤ r ∧ r ≤ 126 ∧ encR r = [UInt8.ofNat r]) ∨ (128 ≤ r ∧ r ≤ 65535 ∧ r ≠ 65533 ∧ Lib.validRune (r : Int) = true ∧ ((encR r).length = 2 ∨ (encR r).length = 3) ∧ ∀ b ∈ encR r, 128 ≤ b.toNat) := by
  have h := inR_ok h
  unfold okR at h
  simp only [Bool.or_eq_true, Bool.and_eq_true, decide_eq_true_eq, beq_iff_eq, List.all_eq_true] at h
  rcases h with ⟨⟨a, b⟩, c⟩ | ⟨⟨⟨⟨⟨a, a2⟩, b⟩, c⟩, d⟩, e⟩
  · exact .inl ⟨a, b, c⟩
  · exact .inr ⟨a, a2, b, c, d, e⟩
theorem valid_mem {l : List UInt8} (h : validC l = true) : ∀ r ∈ runes l, inR r = true := by
  unfold validC at h; exact List.all_eq_true.1 h
/-- A byte of an accepted text is no control character. -/
theorem valid_ge {l : List UInt8} (h : validC l = true) : ∀ b ∈ l, 32 ≤ b.toNat := by
  intro b hb
  rw [← flat h] at hb
  obtain ⟨r, hr, hb⟩ := List.mem_flatMap.1 hb
  rcases inR_two (valid_mem h r hr) with ⟨h1, h2, e⟩ | ⟨_, _, _, _, _, e⟩
  · rw [e] at hb
    rw [List.mem_singleton.1 hb]
    simp; omega
  · have := e b hb; omega
theorem flat_len : ∀ (rs : List Nat), (∀ r ∈ rs, inR r = true) → (rs.flatMap encR).length ≤ 3 * rs.length
  | [], _ => by simp
  | r :: rs, h => by
    have h1 := flat_len rs (fun x hx => h x (List.mem_cons_of_mem _ hx))
    rw [List.flatMap_cons, List.length_append, List.length_cons]
    rcases inR_two (h r List.mem_cons_self) with ⟨_, _, e⟩ | ⟨_, _, _, _, e, _⟩
    · rw [e, List.length_singleton]; omega
    · omega
theorem valid_len {l : List UInt8} (h : validC l = true) : l.length ≤ 3 * (runes l).length := by
  have := flat_len (runes l) (valid_mem h)
  rwa [flat h] at this
/-- The characters that the form cannot carry. -/
def tagB (b : UInt8) : Bool := [60, 62, 38].contains b
def tagR (r : Nat) : Bool := r == 60 || r == 62 || r == 38
theorem tag_low : ∀ r : Fin 127, tagB (UInt8.ofNat r.val) = tagR r.val := by decide +kernel
theorem tag_flat : ∀ (rs : List Nat), (∀ r ∈ rs, inR r = true) → (rs.flatMap encR).any tagB = rs.any tagR
  | [], _ => rfl
  | r :: rs, h => by
    rw [List.flatMap_cons, List.any_append, List.any_cons, tag_flat rs (fun x hx => h x (List.mem_cons_of_mem _ hx))]
    congr 1
    rcases inR_two (h r List.mem_cons_self) with ⟨_, h2, e⟩ | ⟨h1, _, _, _, _, e⟩
    · rw [e]
      have := tag_low ⟨r, by omega⟩
      simpa using this
    · have e1 : tagR r = false := by unfold tagR; simp; omega
      rw [e1, List.any_eq_false]
      intro b hb
      have := e b hb
      unfold tagB
      simp only [List.contains_cons, List.contains_nil, Bool.or_false, Bool.not_eq_true, Bool.or_eq_false_iff, beq_eq_false_iff_ne]
      refine ⟨?_, ?_, ?_⟩ <;> rintro rfl <;> revert this <;> decide
theorem tag_eq {l : List UInt8} (h : validC l = true) : l.any tagB = (runes l).any tagR := by
  have := tag_flat (runes l) (valid_mem h)
  rwa [flat h] at this
end Go.Proofs.YtgiaohccebolpaaGreatDoor
namespace Go.Proofs.YtgiaohccebolpaaGreatDoor
open Go Go.RowKit
open Go.Lib hiding intOf
set_option linter.unusedVariables false
/-! ### strings.IndexRune: a rune of more than one byte in "<>&" -/
def tagS : ByteArray := ⟨#[60, 62, 38]⟩
set_option maxHeartbeats 4000000 in
set_option maxRecDepth 100000 in
theorem indexRune_hi (r : Nat) (h1 : 128 ≤ r) (h2 : r ≤ 65535) (h3 : r ≠ 65533) (hv : Lib.validRune (r : Int) = true) (w : World) :
    Calls Tryz.prog 132 #[.string tagS, .int .i32 (r : Int)] w fun e w' => e = .returned (.int .i64 (-1)) ∧ Below w.heap.size w w' := by
  have cv := Tryz.utf8_ValidRune (r : Int) w
  rw [hv] at cv
  have hvv : Utf8.valid (r : Int) = true := by rw [validRune_eq]; exact hv
  obtain ⟨T, hT⟩ : ∃ T, Utf8.encode (r : Int) = T := ⟨_, rfl⟩
  obtain ⟨g1, g2, g3⟩ := encode_facts (r : Int) hvv (by omega)
  rw [hT] at g1 g2 g3
  have g3 := g3 (by omega)
  have hconv : ∀ w, (convert 21 9 (.int .i32 (r : Int))).run Tryz.prog w = .ok (.string T) w := fun w => by
    rw [run_convert_int_string w 21 9 .i32 _ (by rw [Tryz.underlying21]; rfl) Tryz.underlying9, hT]
  have hidx := idx_str T (T.size - 1) (by omega)
  have htl := idx_str tagS
  have hg : (T.data.toList.getD (T.size - 1) 0).toNat = (T[T.size - 1]'(by omega)).toNat := by
    have h2 : T.size - 1 < T.data.size := by show T.size - 1 < T.size; omega
    rw [List.getD_eq_getElem?_getD, Array.getElem?_toList, Array.getElem?_eq_getElem h2]; rfl
  rw [hg] at hidx
  have hC := (T[T.size - 1]'(by omega)).toNat_lt
  generalize (T[T.size - 1]'(by omega)).toNat = C at *
  have hidx : ∀ w, (Instr.index 9 (.string T) (.int .i64 ((T.size : Int) - 1))).run Tryz.prog w = .ok (.int .u8 (C : Int)) w := fun w => by
    have := hidx w
    rwa [show ((T.size - 1 : Nat) : Int) = (T.size : Int) - 1 by omega] at this
  clear hT hvv hv hg
  have z0 : (0 : Int) ≤ (r : Int) := by omega
  have z1 : ¬ (r : Int) < 128 := by omega
  have z2 : ¬ (r : Int) = 65533 := by omega
  have hs3 : tagS.size = 3 := rfl
  by_cases h4 : 3 ≤ T.size - 1
  · have z3 : ¬ ((T.size : Int) - 1 < 3) := by omega
    go_enter Tryz.func132, Tryz.ntmps132
    go_wp2_with fail
    refine cv.mono ?_
    rintro e w' ⟨rfl, rfl⟩
    go_wp2_with fail
    go_step3
    go_wp2_with fail
    go_loopw [9] (fun v wx => v = .int .i64 ((T.size : Int) - 1) ∧ wx = w') (fun _ _ => 0)
    case atStart => exact ⟨rfl, rfl⟩
    case round =>
      obtain ⟨rfl, rfl⟩ := hrel
      go_wp2_with fail
      simp only [Exit.noGoto, Exit.inBlock]
      go_ret
      exact ⟨rfl, Below.refl _ _⟩
  have htl : ∃ B : Nat, B < 128 ∧ ∀ w, (Instr.index 9 (.string tagS) (.int .i64 ((T.size : Int) - 1))).run Tryz.prog w = .ok (.int .u8 (B : Int)) w := by
    have e : ((T.size - 1 : Nat) : Int) = (T.size : Int) - 1 := by omega
    refine ⟨(tagS.data.toList.getD (T.size - 1) 0).toNat, ?_, fun w => by have := htl (T.size - 1) (by rw [hs3]; omega) w; rwa [e] at this⟩
    obtain h | h : T.size - 1 = 1 ∨ T.size - 1 = 2 := by omega
    all_goals rw [h]; decide
  obtain ⟨B, hB, htl⟩ := htl
  have z3 : ((T.size : Int) - 1 < 3) := by omega
  have hne : ((B : Int) == (C : Int)) = false := beq_eq_false_iff_ne.2 (by omega)
  have hib : ∀ s w, (∀ b ∈ s.data.toList, b ∈ tagS.data.toList) → Calls Tryz.prog 144 #[.string s, .int .u8 (C : Int)] w fun e w' => e = .returned (.int .i64 (-1)) ∧ w' = w := by
    intro s w hs
    have c := Tryz.strings_IndexByte s (C : Int) w
    have e : Lib.indexByte s.data.toList (C : Int).toNat.toUInt8 = -1 := by
      have := Lib.indexByte_ge s.data.toList (C : Int).toNat.toUInt8
      rcases Int.lt_or_le (Lib.indexByte s.data.toList (C : Int).toNat.toUInt8) 0 with h | h
      · omega
      · obtain ⟨o, ho⟩ := Int.eq_ofNat_of_zero_le h
        have h2 := hs _ (List.mem_of_getElem? (indexByte_some ho).1)
        have hcv : (C : Int).toNat.toUInt8.toNat = C := by
          have : C < 256 := hC
          simp; omega
        have h3 : ∀ b ∈ tagS.data.toList, b.toNat < 128 := by decide
        have := h3 _ h2
        omega
    rw [e] at c; exact c
  obtain ⟨S, hS, hsl⟩ : ∃ S : ByteArray, (∀ b ∈ S.data.toList, b ∈ tagS.data.toList) ∧ ∀ w, (Instr.slice 9 (.string tagS) (some (.int .i64 (T.size : Int))) none none).run Tryz.prog w = .ok (.string S) w :=
    ⟨_, fun b hb => mem_extract hb, fun w => run_slice_string_l w 9 tagS Tryz.underlying9 .i64 _ (by omega) (by omega)⟩
  have hwr : IntKind.i64.wrap (T.size : Int) = (T.size : Int) := IntWalk.i64_in _ (by omega)
  have hib := fun w => hib S w hS
  clear hS
  go_enter Tryz.func132, Tryz.ntmps132
  go_wp2_with fail
  refine cv.mono ?_
  rintro e w' ⟨rfl, rfl⟩
  go_wp2_with fail
  go_step3
  go_wp2_with fail
  go_loopw [9] (fun v wx => v = .int .i64 ((T.size : Int) - 1) ∧ wx = w') (fun _ _ => 0)
  case atStart => exact ⟨rfl, rfl⟩
  case round =>
    obtain ⟨rfl, rfl⟩ := hrel
    go_wp2_with fail
    go_step3
    go_wp2_with fail
    go_quiet (fail)
    go_upto_region 7 with fail
    refine world_as (fun W => Below wr.heap.size wr W) (below_dn (Below.refl _ _) _) ?_
    rintro W hbW
    go_still_tail 7, (by kernel_rfl)
    change wpList _ _ _ _ _ W.drew
    go_wp2_with fail
    refine (hib _).mono ?_
    rintro e w2 ⟨rfl, rfl⟩
    go_wp2_with fail
    simp +zetaDelta only [Exit.noGoto, Exit.inBlock, Exit.then]
    go_ret
    exact ⟨rfl, below_dn hbW 1⟩
end Go.Proofs.YtgiaohccebolpaaGreatDoor
namespace Go.Proofs.YtgiaohccebolpaaGreatDoor
open Go Go.RowKit
open Go.Lib hiding intOf
set_option linter.unusedVariables false
/-! ### strings.ContainsAny of "<>&" -/
theorem tagI_low : ∀ r : Fin 127, decide (0 ≤ Lib.indexByte tagS.data.toList ((r.val : Int)).toNat.toUInt8) = tagR r.val := by decide +kernel
theorem indexRune_any (r : Nat) (h : inR r = true) (w : World) :
    Calls Tryz.prog 132 #[.string tagS, .int .i32 (r : Int)] w fun e w' => ∃ n : Int, e = .returned (.int .i64 n) ∧ decide (0 ≤ n) = tagR r ∧ Below w.heap.size w w' := by
  rcases inR_two h with ⟨h1, h2, _⟩ | ⟨h1, h2, h3, h4, _, _⟩
  · refine (Any.strings_IndexRune_ascii { Tryz.lays153 with } tagS (r : Int) w (by omega) (by omega)).mono ?_
    rintro e w' ⟨rfl, rfl⟩
    exact ⟨_, rfl, tagI_low ⟨r, by omega⟩, Below.refl _ _⟩
  · refine (indexRune_hi r h1 h2 h3 h4 w).mono ?_
    rintro e w' ⟨rfl, hb⟩
    refine ⟨_, rfl, ?_, hb⟩
    unfold tagR
    simp; omega
theorem runesAt_valid (s : ByteArray) (pos : Nat) (hp : pos < s.size) (h : (runesAt s pos).all inR = true) : inR (Utf8.decode s pos).1 = true ∧ (runesAt s (pos + (Utf8.decode s pos).2)).all inR = true := by
  rw [runesAt_step s pos hp, List.all_cons, Bool.and_eq_true] at h
  exact h
set_option maxHeartbeats 4000000 in
set_option maxRecDepth 100000 in
theorem indexAny_short (s : ByteArray) (hv : validC s.data.toList = true) (h8 : s.size ≤ 8) (w : World) :
    Calls Tryz.prog 117 #[.string s, .string tagS] w fun e w' => ∃ n : Int, e = .returned (.int .i64 n) ∧ decide (0 ≤ n) = (runes s.data.toList).any tagR ∧ Below w.heap.size w w' := by
  have h8z : decide ((8 : Int) < (s.size : Int)) = false := decide_eq_false (by omega)
  have cS := fun w => Any.strings_shouldUseASCIISet (P := Tryz.prog) { Tryz.lays153 with } (s.size : Int) w
  have hemp : tagS.toList.isEmpty = false := by decide +kernel
  have hts : tagS.size = 3 := rfl
  obtain ⟨Z, hZ⟩ : ∃ Z, (runes s.data.toList).any tagR = Z := ⟨_, rfl⟩
  rw [hZ]
  have hv : (runesAt s 0).all inR = true := hv
  have hZ : (runesAt s 0).any tagR = Z := hZ
  have HV := Lib.hid hv
  have HZ := Lib.hid hZ
  clear hv hZ
  go_enter Tryz.func117, Tryz.ntmps117
  go_wp2_with fail
  refine (cS _).mono ?_
  rintro e w1 ⟨rfl, rfl⟩
  rw [h8z]
  go_wp2_with fail
  go_loopg [9, 10] s.size (fun gf _ _ wx => ∃ (pos : Nat), wx.heap[w1.heap.size]? = some (.stringIter s pos) ∧ Below w1.heap.size w1 wx ∧ Hid ((runesAt s pos).all inR = true) ∧ Hid ((runesAt s pos).any tagR = Z) ∧ s.size ≤ pos + gf)
  case atStart => exact ⟨0, World.iter_heap w1 s 0, below_iter _ _ _, HV, HZ, by omega⟩
  case round =>
    obtain ⟨pos, hit, hbw, hc, hz, hg⟩ := hrel
    by_cases hp : pos < s.size
    · obtain ⟨g', rfl⟩ : ∃ g', gk = g' + 1 := ⟨gk - 1, by omega⟩
      have hnx : ∀ ty, (Instr.next (.pointer (some ⟨w1.heap.size, 0, none⟩)) true ty).run Tryz.prog wr = _ := fun ty => Lib.run_next_any_at wr w1.heap.size s pos ty hit hp
      have hwd := Lib.decode_width_pos s pos hp
      obtain ⟨hr, hv2⟩ := runesAt_valid s pos hp hc.out
      have hz := hz.out
      rw [runesAt_step s pos hp, List.any_cons] at hz
      have hit2 := Lib.iterAt_heap wr w1.heap.size s pos (pos + (Utf8.decode s pos).2) hit
      have hbw2 := Lib.below_iterAt hbw (k := w1.heap.size) (Nat.le_refl _) s (pos + (Utf8.decode s pos).2)
      generalize (Utf8.decode s pos).2 = K at *
      generalize (Utf8.decode s pos).1 = R at *
      generalize wr.iterAt w1.heap.size s (pos + K) = W at *
      have c := indexRune_any R hr W
      have HV2 := Lib.hid hv2
      clear hc hv2 hr
      cases ht : tagR R
      · rw [ht] at c hz
        have HZ2 := Lib.hid (show (runesAt s (pos + K)).any tagR = Z from hz)
        clear hz ht
        go_wp2_with fail
        refine c.mono ?_
        rintro e w2 ⟨n, rfl, hn, hb2⟩
        have hn : ¬ (0 : Int) ≤ n := of_decide_eq_false hn
        go_wp2_with fail
        go_roundg g'
        case measure => omega
        case rel => exact ⟨pos + K, (hb2.block _ (heap_lt hit2)).trans hit2, below_grow hbw2 hbw2.size hb2, HV2, HZ2, by omega⟩
      · rw [ht] at c hz
        have hz : true = Z := by rw [← hz]; rfl
        subst hz
        go_wp2_with fail
        refine c.mono ?_
        rintro e w2 ⟨n, rfl, hn, hb2⟩
        have hn : (0 : Int) ≤ n := of_decide_eq_true hn
        go_wp2_with fail
        go_ret
        exact ⟨_, rfl, decide_eq_true (by omega), below_grow hbw2 hbw2.size hb2⟩
    · have hnx : ∀ ty, (Instr.next (.pointer (some ⟨w1.heap.size, 0, none⟩)) true ty).run Tryz.prog wr = _ := fun ty => Lib.run_next_end_at wr w1.heap.size s pos ty hit hp
      have hz := hz.out
      rw [runesAt_end s pos hp] at hz
      have hz : false = Z := hz
      subst hz
      go_wp2
      go_ret
      exact ⟨_, rfl, by decide, hbw⟩
theorem indexAny_iff (l c : List UInt8) : decide (0 ≤ Lib.indexAny l c) = l.any (fun b => c.contains b) := by
  induction l with
  | nil => rfl
  | cons b l ih =>
    have hg := Lib.indexAny_ge c l
    unfold Lib.indexAny
    rw [List.any_cons]
    cases hb : c.contains b
    · rw [if_neg (by simp), Bool.false_or, ← ih]
      split
      · rename_i h
        have h : Lib.indexAny l c = -1 := by simpa using h
        rw [h]
      · rename_i h
        have h : Lib.indexAny l c ≠ -1 := by simpa using h
        rw [decide_eq_true (show 0 ≤ Lib.indexAny l c + 1 by omega), decide_eq_true (show 0 ≤ Lib.indexAny l c by omega)]
    · rw [if_pos rfl]; rfl
theorem zero192 (w : World) : (zeroValue 192).run Tryz.prog w = .ok (.agg (Array.replicate 256 (.bool false))) w :=
  (zero_of_info (P := Tryz.prog) (t := 192) (n := 256) (by kernel_rfl)).1 w
theorem contains_any (s : ByteArray) (hv : validC s.data.toList = true) (hs : s.size ≤ 2147483648) (w : World) :
    Calls Tryz.prog 88 #[.string s, .string tagS] w fun e w' => e = .returned (.bool (s.data.toList.any tagB)) ∧ Below w.heap.size w w' := by
  have c : Calls Tryz.prog 117 #[.string s, .string tagS] w fun e w' => ∃ n : Int, e = .returned (.int .i64 n) ∧ decide (0 ≤ n) = (runes s.data.toList).any tagR ∧ Below w.heap.size w w' := by
    by_cases h8 : s.size ≤ 8
    · exact indexAny_short s hv h8 w
    · refine (Tryz.strings_IndexAny_long zero192 s tagS w (by decide) (by omega) (by omega) (by decide) ?_).mono ?_
      · have h3 : ∀ b ∈ tagS.data.toList, b.toNat < 128 := by decide
        exact fun j b hb => h3 b (List.mem_of_getElem? hb)
      · rintro e w' ⟨rfl, rfl⟩
        refine ⟨_, rfl, ?_, ((Below.refl _ _).alloc (Nat.le_refl _) _).alloc (by simp) _⟩
        rw [indexAny_iff, ← tag_eq hv]; rfl
  rw [tag_eq hv]
  generalize (runes s.data.toList).any tagR = Z at *
  go_enter Tryz.func88, Tryz.ntmps88
  go_wp2_with fail
  refine c.mono ?_
  rintro e w1 ⟨n, rfl, hn, hb⟩
  go_wp2_with fail
  go_ret
  exact ⟨rfl, hb⟩
end Go.Proofs.YtgiaohccebolpaaGreatDoor
