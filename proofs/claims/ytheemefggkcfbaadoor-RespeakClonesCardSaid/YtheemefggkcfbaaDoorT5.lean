import Derived.Test.YtheemefggkcfbaaDoorT4
namespace Go.Proofs.YtheemefggkcfbaaDoor
open Go Go.Lib Go.RowKit Go.Shelf
theorem idx_str (s : ByteArray) (i : Nat) (h : i < s.size) (w : World) : (Instr.index 9 (.string s) (.int .i64 (i : Int))).run Tryd.prog w = .ok (.int .u8 ((s.data.toList.getD i 0).toNat : Int)) w := by
  rw [run_index_string w 9 s .i64 i Tryd.underlying9, dif_pos ⟨by omega, by omega⟩]
  have h2 : i < s.data.size := h
  have e : s.data.toList.getD i 0 = s[i]'h := by
    rw [List.getD_eq_getElem?_getD, Array.getElem?_toList, Array.getElem?_eq_getElem h2]; rfl
  rw [e]; rfl
theorem slc_str (s : ByteArray) (i j : Nat) (h1 : i ≤ j) (h : j ≤ s.size) (w : World) : (Instr.slice 9 (.string s) (some (.int .i64 (i : Int))) (some (.int .i64 (j : Int))) none).run Tryd.prog w = .ok (strV (pieceU s.data.toList i j)) w := by
  rw [run_slice_string w 9 s .i64 .i64 i j Tryd.underlying9 (by omega) (by omega) (by omega)]
  rw [Int.toNat_natCast, Int.toNat_natCast, piece_extract]; rfl
theorem strV_list (x : ByteArray) : strV x.data.toList = Value.string x := rfl
theorem piece_list (s : ByteArray) (a b : Nat) : pieceU s.data.toList a b = (s.extract a b).data.toList := by rw [extract_data]; rfl
theorem info9 : (Tryd.prog.info? 9).map (fun i => (i.zero, i.size, i.bytes)) = some (some (.string ⟨#[]⟩), 1, 16) := by kernel_rfl
def wcells (l : List (List UInt8)) : List Value := l.map strV
/-- What is left of a text's words at a place. -/
def restW (l : List UInt8) (from' i : Nat) : List (List UInt8) := if i ≤ l.length then wordsGo (pieceU l from' i) (l.drop i) else []
theorem restW_start (l : List UInt8) : restW l 0 0 = words l := by simp [restW, pieceU, words]
theorem restW_over (l : List UInt8) (a i : Nat) (h : l.length < i) : restW l a i = [] := by unfold restW; rw [if_neg (by omega)]
theorem piece_nil (l : List UInt8) (a : Nat) : pieceU l a a = [] := by simp [pieceU]
theorem restW_end (l : List UInt8) (a : Nat) : restW l a l.length = (if l.length ≤ a then [] else [pieceU l a l.length]) := by
  unfold restW
  rw [if_pos (Nat.le_refl _), List.drop_length]
  show (if pieceU l a l.length = [] then [] else [_]) = _
  by_cases h : l.length ≤ a
  · have e : pieceU l a l.length = [] := by simp [pieceU]; omega
    rw [if_pos e, if_pos h]
  · rw [if_neg (pieceU_ne l a _ (by omega) (Nat.le_refl _)), if_neg h]
theorem restW_le (l : List UInt8) (a i : Nat) (h : i ≤ l.length) : restW l a i = wordsGo (pieceU l a i) (l.drop i) := by unfold restW; rw [if_pos h]
theorem restW_sep (l : List UInt8) (a i : Nat) (hi : i < l.length) (ha : a ≤ i) (hs : isSep (l.getD i 0) = true) : restW l a i = (if i ≤ a then [] else [pieceU l a i]) ++ restW l (i + 1) (i + 1) := by
  rw [restW_le l a i (by omega), restW_le l _ _ (show i + 1 ≤ l.length by omega), getD_drop l i hi, wordsGo_cons, hs, if_pos rfl, piece_nil]
  congr 1
  by_cases h : i ≤ a
  · have e : pieceU l a i = [] := by
      obtain rfl : a = i := by omega
      exact piece_nil l a
    rw [if_pos e, if_pos h]
  · rw [if_neg (pieceU_ne l a _ (by omega) (by omega)), if_neg h]
theorem restW_in (l : List UInt8) (a i : Nat) (hi : i < l.length) (ha : a ≤ i) (hs : isSep (l.getD i 0) = false) : restW l a i = restW l a (i + 1) := by
  rw [restW_le l a i (by omega), restW_le l _ _ (show i + 1 ≤ l.length by omega), ← pieceU_grow l a i 1 ha, getD_drop l i hi, wordsGo_cons, hs, if_neg (by simp)]
  rfl
theorem wordsGo_len : ∀ (t cur : List UInt8), (wordsGo cur t).length ≤ t.length + 1
  | [], cur => by unfold wordsGo; split <;> simp
  | b :: t, cur => by
    rw [wordsGo_cons]
    split
    · rw [List.length_append]
      have := wordsGo_len t []
      have h2 : (if cur = [] then ([] : List (List UInt8)) else [cur]).length ≤ 1 := by split <;> simp
      simp; omega
    · have := wordsGo_len t (cur ++ [b])
      simp; omega
theorem sep_cases (b : UInt8) : (isSep b = true ∧ (b.toNat = 32 ∨ b.toNat = 10)) ∨ (isSep b = false ∧ b.toNat ≠ 32 ∧ b.toNat ≠ 10) := by
  have e : isSep b = sepR b.toNat := (sepR_toNat b).symm
  rw [e]
  unfold sepR
  by_cases h1 : b.toNat = 32
  · left; simp [h1]
  · by_cases h2 : b.toNat = 10
    · left; simp [h2]
    · right; simp [h1, h2]
theorem wd_step {B : Nat} {v' : Value} {w W1 w' : World} {d : List (List UInt8)} {x : List UInt8} {v : Value} (hown : W1.ownsRow B 9 1 v d.length (wcells d)) (hB : Below B w W1) (hz : B ≤ W1.heap.size)
    (h1 : w'.ownsRow B 9 1 v' (d.length + 1) (wcells d ++ [strV x])) (hg : W1.grownBy w' v.ownBlock) : w'.ownsRow B 9 1 v' (d ++ [x]).length (wcells (d ++ [x])) ∧ Below B w w' := by
  unfold wcells at *
  rw [List.length_append, List.map_append]; exact ⟨h1, app_step hown hB hz hg⟩

set_option maxHeartbeats 4000000 in
set_option maxRecDepth 100000 in
theorem rwords_any (s : ByteArray) (w : World) (hs : s.size ≤ 1099511627776) :
    Calls Tryd.prog 59 #[.string s] w (Made w.heap.size 9 1 (words s.data.toList).length (wcells (words s.data.toList)) w) := by
  obtain ⟨i0, hi, hz0, hz1, hz2⟩ := info_parts info9
  have hl : s.data.toList.length = s.size := by rw [← size_eq]
  have hidx := idx_str s
  have hpl := piece_list s
  have hst := restW_start s.data.toList
  have hend := restW_end s.data.toList
  have hsep := restW_sep s.data.toList
  have hin := restW_in s.data.toList
  have hov := restW_over s.data.toList
  generalize s.data.toList = l at *
  generalize words l = D at *
  go_enter Tryd.func59, Tryd.ntmps59
  have hs0 := World.ownsRow_lit (base := w.heap.size) (e := 9) (size := 1) w #[] 0 (Nat.le_refl _) (by unfold maxLen; omega) rfl
  go_wp2_with fail
  go_loopw [3, 4, 5] (fun v f5 i5 wx => ∃ (d : List (List UInt8)) (a i : Nat), f5 = .int .i64 a ∧ i5 = .int .i64 i ∧ i ≤ s.size + 1 ∧ a ≤ i ∧ d.length ≤ i ∧ wx.ownsRow w.heap.size 9 1 v d.length (wcells d) ∧ Below w.heap.size w wx ∧ d ++ restW l a i = D) (fun _ _ i5 _ => s.size + 1 - (intOf i5).toNat)
  case atStart => exact ⟨[], 0, 0, rfl, rfl, by omega, by omega, by simp, hs0, below1 _ (Nat.le_refl _), by rw [hst]; rfl⟩
  case round =>
    clear hs0 hst
    obtain ⟨d, a, i, rfl, rfl, hi', ha, hd, hown, hb, hD⟩ := hrel
    have hsz := hb.size
    by_cases hle : i ≤ s.size
    · by_cases heq : i = s.size
      · subst heq
        have hend2 := hend a
        rw [hl] at hend2
        rw [hend2] at hD
        clear hend2
        have hss : ((s.size : Int) == (s.size : Int)) = true := by simp
        by_cases hga : a < s.size
        · rw [if_neg (by omega)] at hD
          rw [hpl a s.size] at hD
          have hgz : (a : Int) < (s.size : Int) := by omega
          clear hidx hpl hend hsep hin
          go_wp2_with (at_builtin; refine wpList_append_own _ rfl _ _ 42 rfl w.heap.size 9 i0 _ 1 16 Tryd.underlying42 hi hz0 hz1 hz2 rfl (by decide) _ _ _ rfl (hown.alloc _) ⟨wr.heap.size, 0, none⟩ 1 1 [.string (s.extract a s.size)] rfl rfl ?c1 ?c2 ?c3 ?c4 ?c5 ?_)
          case c1 => exact cells_new _ _ _ rfl
          case c2 => simp [Value.oneCell']
          case c3 => unfold maxLen; omega
          case c4 => omega
          case c5 => simp; omega
          · intro v' w1 hown' hgrow _
            have R := wd_step (x := (s.extract a s.size).data.toList) (hown.alloc _) (hb.alloc hsz _) (by simp; omega) hown' hgrow
            clear hown' hgrow hown hb
            go_wp2_with fail
            go_roundw
            case rel => exact ⟨d ++ [(s.extract a s.size).data.toList], s.size + 1, s.size + 1, by go_num, by go_num, by omega, by omega, by simp; omega, R.1, R.2, by rw [hov _ _ (by omega), List.append_nil]; exact hD⟩
            case measure => simp [intOf]
        · rw [if_pos (by omega), List.append_nil] at hD
          have hgz : ¬ (a : Int) < (s.size : Int) := by omega
          clear hidx hpl hend hsep hin
          go_wp2_with fail
          go_roundw
          case rel => exact ⟨d, s.size + 1, s.size + 1, by go_num, by go_num, by omega, by omega, by omega, hown, hb, by rw [hov _ _ (by omega), List.append_nil]; exact hD⟩
          case measure => simp [intOf]
      · have hlt : i < s.size := by omega
        have hlz : (i : Int) < (s.size : Int) := by omega
        have hez : ((i : Int) == (s.size : Int)) = false := by simp; omega
        have hix := hidx i hlt
        rcases sep_cases (l.getD i 0) with ⟨hs1, hb1⟩ | ⟨hs1, hn1, hn2⟩
        · rw [hsep a i (by omega) ha hs1] at hD
          by_cases hga : a < i
          · rw [if_neg (by omega)] at hD
            rw [hpl a i] at hD
            have hgz : (a : Int) < (i : Int) := by omega
            clear hidx hpl hend hsep hin hs1
            generalize (l.getD i 0).toNat = y at *
            rcases hb1 with rfl | rfl
            all_goals
              go_wp2_with (at_builtin; refine wpList_append_own _ rfl _ _ 42 rfl w.heap.size 9 i0 _ 1 16 Tryd.underlying42 hi hz0 hz1 hz2 rfl (by decide) _ _ _ rfl (hown.alloc _) ⟨wr.heap.size, 0, none⟩ 1 1 [.string (s.extract a i)] rfl rfl ?c1 ?c2 ?c3 ?c4 ?c5 ?_)
              case c1 => exact cells_new _ _ _ rfl
              case c2 => simp [Value.oneCell']
              case c3 => unfold maxLen; omega
              case c4 => omega
              case c5 => simp; omega
              · intro v' w1 hown' hgrow _
                have R := wd_step (x := (s.extract a i).data.toList) (hown.alloc _) (hb.alloc hsz _) (by simp; omega) hown' hgrow
                clear hown' hgrow hown hb
                go_wp2_with fail
                go_roundw
                case rel => exact ⟨d ++ [(s.extract a i).data.toList], i + 1, i + 1, by go_num, by go_num, by omega, by omega, by simp; omega, R.1, R.2, by rw [List.append_assoc]; exact hD⟩
                case measure => simp [intOf]; omega
          · rw [if_pos (by omega), List.nil_append] at hD
            have hgz : ¬ (a : Int) < (i : Int) := by omega
            clear hidx hpl hend hsep hin hs1
            generalize (l.getD i 0).toNat = y at *
            rcases hb1 with rfl | rfl
            all_goals
              go_wp2_with fail
              go_roundw
              case rel => exact ⟨d, i + 1, i + 1, by go_num, by go_num, by omega, by omega, by omega, hown, hb, hD⟩
              case measure => simp [intOf]; omega
        · rw [hin a i (by omega) ha hs1] at hD
          clear hidx hpl hend hsep hin hs1
          generalize (l.getD i 0).toNat = y at *
          have h1z : ((y : Int) == 32) = false := by simp; omega
          have h2z : ((y : Int) == 10) = false := by simp; omega
          go_wp2_with fail
          go_roundw
          case rel => exact ⟨d, a, i + 1, rfl, by go_num, by omega, by omega, by omega, hown, hb, hD⟩
          case measure => simp [intOf]; omega
    · have hD2 := hD
      rw [hov a i (by omega), List.append_nil] at hD2
      subst hD2
      have hlz : ¬ (i : Int) ≤ (s.size : Int) := by omega
      go_wp2_with fail
      go_ret
      exact ⟨_, rfl, hown, hb⟩
end Go.Proofs.YtheemefggkcfbaaDoor
