import Derived.Test.YtheemefggkcfbaaDoorR1
import Derived.Deep.DeepCutAuto
namespace Go.Proofs.YtheemefggkcfbaaDoor
open Go Go.Lib Go.RowKit Go.Shelf
theorem runesFrom_eq (s : ByteArray) : ∀ (f i : Nat) (acc : Array Value), s.size ≤ i + f → (Conv.runesFrom s f i acc).toList = acc.toList ++ rcells (runesAt s i)
  | 0, i, acc, h => by rw [runesAt_end s i (by omega)]; simp [Conv.runesFrom, rcells]
  | f + 1, i, acc, h => by
    unfold Conv.runesFrom
    by_cases hi : i < s.size
    · have hw := Lib.decode_width_pos s i hi
      rw [if_pos hi, runesAt_step s i hi]
      simp only []
      rw [runesFrom_eq s f _ _ (by omega)]
      simp [rcells]
    · rw [if_neg hi, runesAt_end s i hi]; simp [rcells]
/-- The runes that the call laid in a row. -/
structure RRow (w : World) (b : Nat) (l : List Nat) : Prop where
  cell : ∀ (j : Nat) (hj : j < l.length), w.cell? ⟨b, j, none⟩ = some (.int .i32 (l[j] : Int))
  lt : b < w.heap.size
theorem made_runes (w : World) (s : ByteArray) (hs : s.size ≤ 1048576) : ∃ c W, (convert 9 120 (.string s)).run Tryd.prog w = .ok (.slice (some ⟨w.heap.size, 0, none⟩) (runes s.data.toList).length c) W ∧ RRow W w.heap.size (runes s.data.toList) ∧ Below w.heap.size w W := by
  have hl := runesFrom_eq s s.size 0 #[] (by omega)
  have hl2 : (Conv.runesFrom s s.size 0 #[]).toList = rcells (runes s.data.toList) := by rw [hl, runesAt_zero]; simp
  have hn : (Conv.runesFrom s s.size 0 #[]).size = (runes s.data.toList).length := by
    have := congrArg List.length hl2
    simpa [rcells] using this
  have hr := run_runes_of_string w 9 120 21 s Tryd.underlying9 Tryd.underlying120 Tryd.underlying21 (by
    have := size_runesFrom s s.size 0 #[]
    simp at this; omega)
  rw [hn] at hr
  refine ⟨_, _, hr, ⟨fun j hj => ?_, by simp⟩, ((Below.refl _ w).drew).alloc (Nat.le_refl _) _⟩
  rw [show w.heap.size = w.drew.heap.size from rfl, World.cell?_alloc_new]
  rw [Array.getElem?_append_left (by rw [hn]; exact hj), ← Array.getElem?_toList, hl2]
  simp [rcells, hj]
theorem RRow.stays {w w' : World} {b : Nat} {l : List Nat} (h : RRow w b l) (hb : Below w.heap.size w w') : RRow w' b l :=
  ⟨fun j hj => (hb.cell (p := ⟨b, j, none⟩) h.lt).trans (h.cell j hj), Nat.lt_of_lt_of_le h.lt hb.size⟩
theorem findR_drop (l : List Nat) (r : Int) (k : Nat) (h : k < l.length) (n : Int) : findR (l.drop k) r n = if (l[k] : Int) = r then n else findR (l.drop (k + 1)) r (n + 1) := by
  rw [List.drop_eq_getElem_cons h]; rfl
set_option maxHeartbeats 4000000 in
set_option maxRecDepth 100000 in
theorem sindex_any (b c : Nat) (l : List Nat) (r : Int) (w : World) (hn : l.length ≤ 1048576) (hR : RRow w b l) :
    Calls Tryd.prog 143 #[.slice (some ⟨b, 0, none⟩) l.length c, .int .i32 r] w fun e w' => e = .returned (.int .i64 (findR l r 0)) ∧ w = w' := by
  obtain ⟨Z, hZ⟩ : ∃ Z, findR l r 0 = Z := ⟨_, rfl⟩
  rw [hZ]
  have hF : Hid (findR (l.drop 0) r (0 : Nat) = Z) := Lib.hid hZ
  clear hZ
  go_enter Tryd.func143, Tryd.ntmps143
  go_wp2_with fail
  go_loop [8] (fun v => ∃ k : Nat, v = .int .i64 k ∧ k ≤ l.length ∧ Hid (findR (l.drop k) r (k : Nat) = Z)) (fun v => l.length - (intOf v).toNat)
  case atStart => exact ⟨0, rfl, Nat.zero_le _, hF⟩
  case round =>
    clear hF
    obtain ⟨k, rfl, hk, HF⟩ := hrel
    by_cases hlt : k < l.length
    · have hz : (k : Int) < (l.length : Int) := by omega
      have hc := hR.cell k hlt
      have hs := findR_drop l r k hlt (k : Int)
      have HF2 := HF.out
      rw [hs] at HF2
      generalize (l[k] : Int) = x at *
      by_cases hx : x = r
      · have HZ : Hid (Z = (k : Int)) := by rw [if_pos hx] at HF2; exact Lib.hid HF2.symm
        have hxr : (r == x) = true := by simp [hx]
        clear HF HF2 hs hx
        go_wp2_with fail
        go_ret
        exact ⟨ret_int HZ.out.symm, rfl⟩
      · have HZ : Hid (findR (l.drop (k + 1)) r ((k + 1 : Nat) : Int) = Z) := by rw [if_neg hx] at HF2; exact Lib.hid (by rw [← HF2]; rfl)
        have hxr : (r == x) = false := by simp; exact fun h => hx h.symm
        clear HF HF2 hs hx
        go_wp2_with fail
        go_round
        case rel => exact ⟨k + 1, by go_num, by omega, HZ⟩
        case measure => simp [intOf]; omega
    · obtain rfl : k = l.length := by omega
      have HZ : Hid (Z = -1) := by have h := HF.out; rw [List.drop_length] at h; exact Lib.hid h.symm
      have hz : ¬ (l.length : Int) < (l.length : Int) := by omega
      clear HF
      go_wp2_with fail
      go_ret
      exact ⟨ret_int HZ.out.symm, rfl⟩
set_option maxHeartbeats 4000000 in
theorem cindex_any (s : ByteArray) (r : Int) (w : World) (hs : s.size ≤ 1048576) :
    Calls Tryd.prog 139 #[.string s, .int .i32 r] w fun e w' => e = .returned (.int .i64 (findR (runes s.data.toList) r 0)) ∧ Below w.heap.size w w' := by
  obtain ⟨c, W, hcv, hR, hb⟩ := made_runes w s hs
  have hl : (runes s.data.toList).length ≤ 1048576 := by
    have := runes_length s.data.toList
    rw [← size_eq] at this; omega
  have k1 := sindex_any w.heap.size c (runes s.data.toList) r W hl hR
  generalize runes s.data.toList = l at *
  generalize findR l r 0 = Z at *
  go_enter Tryd.func139, Tryd.ntmps139
  go_wp2_with fail
  refine k1.mono ?_
  rintro e w2 ⟨rfl, rfl⟩
  go_wp2_with fail
  go_ret
  exact ⟨rfl, hb⟩
end Go.Proofs.YtheemefggkcfbaaDoor
