import Derived.Test.YtheemefggkcfbaaDoorT3
import Derived.Laws.IdiomStrings
namespace Go.Proofs.YtheemefggkcfbaaDoor
open Go Go.Lib Go.RowKit Go.Shelf
/-- A block of bytes that the call made. -/
structure BRow (w : World) (b : Nat) (l : List UInt8) : Prop where
  cell : ∀ (j : Nat) (hj : j < l.length), w.cell? ⟨b, j, none⟩ = some (.int .u8 (l[j].toNat : Int))
  warm : ∀ j, j < l.length → w.frozen? ⟨b, j, none⟩ = false
theorem made_bytes (w : World) (s : ByteArray) : ∃ c W, (convert 9 98 (.string s)).run Tryd.prog w = .ok (.slice (some ⟨w.heap.size, 0, none⟩) s.size c) W ∧ BRow W w.heap.size s.data.toList ∧ Below w.heap.size w W := by
  refine ⟨_, _, run_bytes_of_string w 9 98 5 s Tryd.underlying9 Tryd.underlying98 Tryd.underlying5, ⟨fun j hj => ?_, fun j hj => ?_⟩, ?_⟩
  · rw [show w.heap.size = w.drew.heap.size from rfl, World.cell?_alloc_mark]
    have hj' : j < s.data.size := by simpa using hj
    have hj2 : j < s.size := hj'
    simp [bytesRow, Array.getElem?_append, hj2]
  · rw [show w.heap.size = w.drew.heap.size from rfl, World.frozen?_alloc_mark]
    have hj' : j < s.data.size := by simpa using hj
    have : j < (bytesRow s (grownCap w s.size 0 5)).size := by simp [bytesRow]; exact Nat.lt_of_lt_of_le hj' (Nat.le_add_right _ _)
    simp; omega
  · exact ((Below.refl _ w).drew).alloc (Nat.le_refl _) _
theorem BRow.set {w : World} {b : Nat} {l : List UInt8} (h : BRow w b l) (i : Nat) (hi : i < l.length) (x : UInt8) : BRow (w.setCell ⟨b, i, none⟩ (.int .u8 (x.toNat : Int))) b (l.set i x) := by
  refine ⟨fun j hj => ?_, fun j hj => ?_⟩
  · rw [List.length_set] at hj
    by_cases e : i = j
    · subst e
      rw [World.cell?_setCell_same _ _ _ (h.cell i hi)]; simp
    · rw [World.cell?_setCell_other _ _ _ _ (by simp), h.cell j hj]
      rw [List.getElem_set_ne e]
  · rw [List.length_set] at hj
    rw [World.frozen?_setCell]; exact h.warm j hj
theorem BRow.back {w : World} {b : Nat} {l : List UInt8} (h : BRow w b l) (c : Nat) (n : Nat) (hn : n = l.length) : (convert 98 9 (.slice (some ⟨b, 0, none⟩) n c)).run Tryd.prog w = .ok (.string ⟨l.toArray⟩) w := by
  subst hn
  exact run_convert_bytes_back w 98 9 5 ⟨b, 0, none⟩ c l Tryd.underlying98 Tryd.underlying5 Tryd.underlying9 (fun j hj => by
    have e : (⟨b, 0, none⟩ : Addr).add j = ⟨b, j, none⟩ := by unfold Addr.add; split <;> simp_all
    rw [e]; exact h.cell j hj)
/-- A letter as a small one. -/
def lowB (b : UInt8) : UInt8 := if 65 ≤ b.toNat ∧ b.toNat ≤ 90 then b + 32 else b
def low (l : List UInt8) : List UInt8 := l.map lowB
theorem lowB_yes (b : UInt8) (h : 65 ≤ b.toNat ∧ b.toNat ≤ 90) : (lowB b).toNat = b.toNat + 32 := by
  unfold lowB; rw [if_pos h, UInt8.toNat_add]; simp; omega
theorem lowB_no (b : UInt8) (h : ¬ (65 ≤ b.toNat ∧ b.toNat ≤ 90)) : lowB b = b := by
  unfold lowB; rw [if_neg h]
def lowAt (l : List UInt8) (i : Nat) : List UInt8 := (l.take i).map lowB ++ l.drop i
theorem lowAt_zero (l : List UInt8) : lowAt l 0 = l := by simp [lowAt]
theorem lowAt_all (l : List UInt8) : lowAt l l.length = low l := by simp [lowAt, low]
theorem lowAt_len (l : List UInt8) (i : Nat) : (lowAt l i).length = l.length := by simp [lowAt]; omega
theorem lowAt_get (l : List UInt8) (i : Nat) (h : i < l.length) : (lowAt l i)[i]'(by rw [lowAt_len]; exact h) = l[i] := by
  simp only [lowAt]
  rw [List.getElem_append_right (by simp; exact Nat.min_le_left _ _)]
  simp [Nat.min_eq_left (Nat.le_of_lt h)]
theorem lowAt_succ (l : List UInt8) (i : Nat) (h : i < l.length) : lowAt l (i + 1) = (lowAt l i).set i (lowB l[i]) := by
  simp only [lowAt]
  rw [List.set_append_right _ _ (by simp; exact Nat.min_le_left _ _), List.take_succ_eq_append_getElem h, List.drop_eq_getElem_cons h, List.map_append, List.append_assoc, List.length_map, List.length_take, Nat.min_eq_left (Nat.le_of_lt h), Nat.sub_self]
  rfl
theorem lowAt_same (l : List UInt8) (i : Nat) (h : i < l.length) (e : lowB l[i] = l[i]) : lowAt l (i + 1) = lowAt l i := by
  rw [lowAt_succ l i h, e]
  conv => lhs; rw [← lowAt_get l i h]
  rw [List.set_getElem_self]

set_option maxHeartbeats 4000000 in
set_option maxRecDepth 100000 in
theorem small_any (s : ByteArray) (w : World) (hs : s.size < 9223372036854775807) :
    Calls Tryd.prog 63 #[.string s] w fun e w' => e = .returned (.string ⟨(low s.data.toList).toArray⟩) ∧ Below w.heap.size w w' := by
  obtain ⟨c, W, hcv, hB, hb⟩ := made_bytes w s
  have hl : s.data.toList.length = s.size := by rw [← size_eq]
  generalize s.data.toList = l at *
  go_enter Tryd.func63, Tryd.ntmps63
  go_wp2_with fail
  go_loopw [10] (fun v wx => ∃ i : Nat, v = .int .i64 i ∧ i ≤ s.size ∧ BRow wx w.heap.size (lowAt l i) ∧ Below w.heap.size w wx) (fun v _ => s.size - (intOf v).toNat)
  case atStart => exact ⟨0, rfl, Nat.zero_le _, by rw [lowAt_zero]; exact hB, hb⟩
  case round =>
    clear hcv hB hb
    obtain ⟨i, rfl, hi, hB, hb⟩ := hrel
    by_cases hlt : i < s.size
    · have hil : i < l.length := by omega
      have hz : (i : Int) < (s.size : Int) := by omega
      have hc0 := hB.cell i (by rw [lowAt_len]; exact hil)
      rw [lowAt_get l i hil] at hc0
      have hf0 := hB.warm i (by rw [lowAt_len]; exact hil)
      have hx := (l[i]).toNat_lt
      by_cases hu : 65 ≤ (l[i]).toNat ∧ (l[i]).toNat ≤ 90
      · have hR := hB.set i (by rw [lowAt_len]; exact hil) (lowB l[i])
        rw [← lowAt_succ l i hil, lowB_yes _ hu] at hR
        have hb2 := hb.setCell (p := ⟨w.heap.size, i, none⟩) (Nat.le_refl _) (.int .u8 (((l[i]).toNat + 32 : Nat) : Int))
        obtain ⟨h1, h2⟩ := hu
        generalize (l[i]).toNat = x at *
        have h1z : (65 : Int) ≤ (x : Int) := by omega
        have h2z : (x : Int) ≤ 90 := by omega
        have he : ((x + 32 : Nat) : Int) = (x : Int) + 97 - 65 := by omega
        rw [he] at hR hb2
        clear hB hb
        go_wp2_with fail
        go_roundw
        case rel => exact ⟨i + 1, by go_num, by omega, hR, hb2⟩
        case measure => simp [intOf]; omega
      · have hR : BRow wr w.heap.size (lowAt l (i + 1)) := by rw [lowAt_same l i hil (lowB_no _ hu)]; exact hB
        generalize (l[i]).toNat = x at *
        by_cases h1 : 65 ≤ x
        · have h1z : (65 : Int) ≤ (x : Int) := by omega
          have h2z : ¬ (x : Int) ≤ 90 := by omega
          clear hB
          go_wp2_with fail
          go_roundw
          case rel => exact ⟨i + 1, by go_num, by omega, hR, hb⟩
          case measure => simp [intOf]; omega
        · have h1z : ¬ (65 : Int) ≤ (x : Int) := by omega
          clear hB
          go_wp2_with fail
          go_roundw
          case rel => exact ⟨i + 1, by go_num, by omega, hR, hb⟩
          case measure => simp [intOf]; omega
    · obtain rfl : i = s.size := by omega
      have hback := hB.back c s.size (by rw [lowAt_len]; exact hl.symm)
      rw [← hl, lowAt_all, hl] at hback
      clear hB
      go_wp2_with fail
      go_ret
      exact ⟨rfl, hb⟩

set_option maxHeartbeats 4000000 in
set_option maxRecDepth 100000 in
theorem rsmall_any (s : ByteArray) (w : World) (hs : s.size < 9223372036854775807) :
    Calls Tryd.prog 65 #[.string s] w fun e w' => e = .returned (.string ⟨(low s.data.toList).toArray⟩) ∧ Below w.heap.size w w' := by
  obtain ⟨c, W, hcv, hB, hb⟩ := made_bytes w s
  have hl : s.data.toList.length = s.size := by rw [← size_eq]
  generalize s.data.toList = l at *
  go_enter Tryd.func65, Tryd.ntmps65
  go_wp2_with fail
  go_loopw [10] (fun v wx => ∃ i : Nat, v = .int .i64 i ∧ i ≤ s.size ∧ BRow wx w.heap.size (lowAt l i) ∧ Below w.heap.size w wx) (fun v _ => s.size - (intOf v).toNat)
  case atStart => exact ⟨0, rfl, Nat.zero_le _, by rw [lowAt_zero]; exact hB, hb⟩
  case round =>
    clear hcv hB hb
    obtain ⟨i, rfl, hi, hB, hb⟩ := hrel
    by_cases hlt : i < s.size
    · have hil : i < l.length := by omega
      have hz : (i : Int) < (s.size : Int) := by omega
      have hc0 := hB.cell i (by rw [lowAt_len]; exact hil)
      rw [lowAt_get l i hil] at hc0
      have hf0 := hB.warm i (by rw [lowAt_len]; exact hil)
      have hx := (l[i]).toNat_lt
      by_cases hu : 65 ≤ (l[i]).toNat ∧ (l[i]).toNat ≤ 90
      · have hR := hB.set i (by rw [lowAt_len]; exact hil) (lowB l[i])
        rw [← lowAt_succ l i hil, lowB_yes _ hu] at hR
        have hb2 := hb.setCell (p := ⟨w.heap.size, i, none⟩) (Nat.le_refl _) (.int .u8 (((l[i]).toNat + 32 : Nat) : Int))
        obtain ⟨h1, h2⟩ := hu
        generalize (l[i]).toNat = x at *
        have h1z : (65 : Int) ≤ (x : Int) := by omega
        have h2z : (x : Int) ≤ 90 := by omega
        have he : ((x + 32 : Nat) : Int) = (x : Int) + 32 := by omega
        rw [he] at hR hb2
        clear hB hb
        go_wp2_with fail
        go_roundw
        case rel => exact ⟨i + 1, by go_num, by omega, hR, hb2⟩
        case measure => simp [intOf]; omega
      · have hR : BRow wr w.heap.size (lowAt l (i + 1)) := by rw [lowAt_same l i hil (lowB_no _ hu)]; exact hB
        generalize (l[i]).toNat = x at *
        by_cases h1 : 65 ≤ x
        · have h1z : (65 : Int) ≤ (x : Int) := by omega
          have h2z : ¬ (x : Int) ≤ 90 := by omega
          clear hB
          go_wp2_with fail
          go_roundw
          case rel => exact ⟨i + 1, by go_num, by omega, hR, hb⟩
          case measure => simp [intOf]; omega
        · have h1z : ¬ (65 : Int) ≤ (x : Int) := by omega
          clear hB
          go_wp2_with fail
          go_roundw
          case rel => exact ⟨i + 1, by go_num, by omega, hR, hb⟩
          case measure => simp [intOf]; omega
    · obtain rfl : i = s.size := by omega
      have hback := hB.back c s.size (by rw [lowAt_len]; exact hl.symm)
      rw [← hl, lowAt_all, hl] at hback
      clear hB
      go_wp2_with fail
      go_ret
      exact ⟨rfl, hb⟩
end Go.Proofs.YtheemefggkcfbaaDoor
