import Derived.Test.YtheemefggkcfbaaDoorR15
namespace Go.Proofs.YtheemefggkcfbaaDoor
open Go Go.Lib Go.RowKit Go.Shelf
def restP (l : List UInt8) (from' i : Nat) : List (List UInt8) := if i ≤ l.length then spGo (pieceU l from' i) (l.drop i) else []
theorem restP_start (l : List UInt8) : restP l 0 0 = spW l := by simp [restP, pieceU, spW]
theorem restP_over (l : List UInt8) (a i : Nat) (h : l.length < i) : restP l a i = [] := by unfold restP; rw [if_neg (by omega)]
theorem restP_end (l : List UInt8) (a : Nat) : restP l a l.length = (if l.length ≤ a then [] else [pieceU l a l.length]) := by
  unfold restP
  rw [if_pos (Nat.le_refl _), List.drop_length]
  show (if pieceU l a l.length = [] then [] else [_]) = _
  by_cases h : l.length ≤ a
  · have e : pieceU l a l.length = [] := by simp [pieceU]; omega
    rw [if_pos e, if_pos h]
  · rw [if_neg (pieceU_ne l a _ (by omega) (Nat.le_refl _)), if_neg h]
theorem restP_le (l : List UInt8) (a i : Nat) (h : i ≤ l.length) : restP l a i = spGo (pieceU l a i) (l.drop i) := by unfold restP; rw [if_pos h]
theorem restP_sep (l : List UInt8) (a i : Nat) (hi : i < l.length) (ha : a ≤ i) (hs : l.getD i 0 = 32) : restP l a i = (if i ≤ a then [] else [pieceU l a i]) ++ restP l (i + 1) (i + 1) := by
  rw [restP_le l a i (by omega), restP_le l _ _ (show i + 1 ≤ l.length by omega), getD_drop l i hi, spGo_cons, hs, if_pos rfl, piece_nil]
  congr 1
  by_cases h : i ≤ a
  · have e : pieceU l a i = [] := by
      obtain rfl : a = i := by omega
      exact piece_nil l a
    rw [if_pos e, if_pos h]
  · rw [if_neg (pieceU_ne l a _ (by omega) (by omega)), if_neg h]
theorem restP_in (l : List UInt8) (a i : Nat) (hi : i < l.length) (ha : a ≤ i) (hs : l.getD i 0 ≠ 32) : restP l a i = restP l a (i + 1) := by
  rw [restP_le l a i (by omega), restP_le l _ _ (show i + 1 ≤ l.length by omega), ← pieceU_grow l a i 1 ha, getD_drop l i hi, spGo_cons, if_neg hs]
  rfl
set_option maxHeartbeats 8000000 in
set_option maxRecDepth 100000 in
theorem rspk_any (s : ByteArray) (w : World) (hs : s.size ≤ 65536) (hE : Env w) :
    Calls Tryd.prog 33 #[.string s] w (MadeW w.heap.size (spkL s.data.toList) (spkE s.data.toList) w) := by
  obtain ⟨i0, hi, hz0, hz1, hz2⟩ := info_parts info9
  have hLl : (spW s.data.toList).length ≤ s.size + 1 := by
    have h := spW_len s.data.toList
    rw [← size_eq] at h; exact h
  have hwl : ∀ i, ((spW s.data.toList).getD i []).length ≤ s.size := by
    intro i
    have h := spW_getD_len s.data.toList i
    rw [← size_eq] at h; exact h
  have Hnone := Lib.hid (@spk_none s.data.toList)
  have Hbad := Lib.hid (fun z => @spk_bad s.data.toList z)
  have Hgood := Lib.hid (@spk_good s.data.toList)
  have hLl := Lib.hid hLl
  have hwl := Lib.hid hwl
  have hl : s.data.toList.length = s.size := by rw [← size_eq]
  have hidx := idx_str s
  have hpl := piece_list s
  have hst := restP_start s.data.toList
  have hend := restP_end s.data.toList
  have hsep := restP_sep s.data.toList
  have hin := restP_in s.data.toList
  have hov := restP_over s.data.toList
  generalize spkL s.data.toList = TS at *
  generalize spkE s.data.toList = ER at *
  generalize s.data.toList = l at *
  generalize spW l = D at *
  go_enter Tryd.func33, Tryd.ntmps33
  go_wp2_with fail
  go_loopw [4, 5, 6] (fun v f5 i5 wx => ∃ (d : List (List UInt8)) (a i : Nat), f5 = .int .i64 a ∧ i5 = .int .i64 i ∧ i ≤ s.size + 1 ∧ a ≤ i ∧ d.length ≤ i ∧ wx.ownsRow w.heap.size 9 1 v d.length (wcells d) ∧ Below w.heap.size w wx ∧ Hid (d ++ restP l a i = D)) (fun _ _ i5 _ => s.size + 1 - (intOf i5).toNat)
  case atStart => exact ⟨[], 0, 0, rfl, rfl, by omega, by omega, by simp, World.ownsRow_nil _ _ _ _, Below.refl _ _, Lib.hid (by rw [hst]; rfl)⟩
  case round =>
    clear hst
    obtain ⟨d, a, i, rfl, rfl, hi', ha, hd, hown, hb, hD⟩ := hrel
    have hsz := hb.size
    by_cases hle : i ≤ s.size
    · by_cases heq : i = s.size
      · subst heq
        have hend2 := hend a
        have hD := hD.out
        rw [hl] at hend2
        rw [hend2] at hD
        clear hend2
        have hss : ((s.size : Int) == (s.size : Int)) = true := by simp
        by_cases hga : a < s.size
        · rw [if_neg (by omega)] at hD
          rw [hpl a s.size] at hD
          have hD := Lib.hid hD
          have hgz : (a : Int) < (s.size : Int) := by omega
          clear hidx hpl hend hsep hin
          go_wp2_with (at_builtin; refine wpList_append_own _ rfl _ _ 42 rfl w.heap.size 9 i0 _ 1 16 Tryd.underlying42 hi hz0 hz1 hz2 rfl (by decide) _ _ _ rfl (hown.alloc _) ⟨wr.heap.size, 0, none⟩ 1 1 [.string (s.extract a s.size)] rfl rfl ?c1 ?c2 ?c3 ?c4 ?c5 ?_)
          case c1 => exact cells_new _ _ _ rfl
          case c2 => simp [Value.oneCell']
          case c3 => unfold maxLen; omega
          case c4 => omega
          case c5 => simp; omega
          · intro v' w1 hown' hgrow _
            have R := wd_step (x := (s.extract a s.size).data.toList) (hown.alloc _) (hb.alloc hsz _) (by simp; omega) hown' hgrow
            clear hown' hgrow hown hb
            go_wp2_with fail
            go_roundw
            case rel => exact ⟨d ++ [(s.extract a s.size).data.toList], s.size + 1, s.size + 1, by go_num, by go_num, by omega, by omega, by simp; omega, R.1, R.2, Lib.hid (by rw [hov _ _ (by omega), List.append_nil]; exact hD.out)⟩
            case measure => simp [intOf]
        · rw [if_pos (by omega), List.append_nil] at hD
          have hD := Lib.hid hD
          have hgz : ¬ (a : Int) < (s.size : Int) := by omega
          clear hidx hpl hend hsep hin
          go_wp2_with fail
          go_roundw
          case rel => exact ⟨d, s.size + 1, s.size + 1, by go_num, by go_num, by omega, by omega, by omega, hown, hb, Lib.hid (by rw [hov _ _ (by omega), List.append_nil]; exact hD.out)⟩
          case measure => simp [intOf]
      · have hlt : i < s.size := by omega
        have hlz : (i : Int) < (s.size : Int) := by omega
        have hez : ((i : Int) == (s.size : Int)) = false := by simp; omega
        have hix := hidx i hlt
        have hD := hD.out
        by_cases hs1 : l.getD i 0 = 32
        · rw [hsep a i (by omega) ha hs1] at hD
          rw [hs1] at hix
          by_cases hga : a < i
          · rw [if_neg (by omega)] at hD
            rw [hpl a i] at hD
            have hD := Lib.hid hD
            have hgz : (a : Int) < (i : Int) := by omega
            clear hidx hpl hend hsep hin hs1
            go_wp2_with (at_builtin; refine wpList_append_own _ rfl _ _ 42 rfl w.heap.size 9 i0 _ 1 16 Tryd.underlying42 hi hz0 hz1 hz2 rfl (by decide) _ _ _ rfl (hown.alloc _) ⟨wr.heap.size, 0, none⟩ 1 1 [.string (s.extract a i)] rfl rfl ?c1 ?c2 ?c3 ?c4 ?c5 ?_)
            case c1 => exact cells_new _ _ _ rfl
            case c2 => simp [Value.oneCell']
            case c3 => unfold maxLen; omega
            case c4 => omega
            case c5 => simp; omega
            · intro v' w1 hown' hgrow _
              have R := wd_step (x := (s.extract a i).data.toList) (hown.alloc _) (hb.alloc hsz _) (by simp; omega) hown' hgrow
              clear hown' hgrow hown hb
              go_wp2_with fail
              go_roundw
              case rel => exact ⟨d ++ [(s.extract a i).data.toList], i + 1, i + 1, by go_num, by go_num, by omega, by omega, by simp; omega, R.1, R.2, Lib.hid (by rw [List.append_assoc]; exact hD.out)⟩
              case measure => simp [intOf]; omega
          · rw [if_pos (by omega), List.nil_append] at hD
            have hD := Lib.hid hD
            have hgz : ¬ (a : Int) < (i : Int) := by omega
            clear hidx hpl hend hsep hin hs1
            go_wp2_with fail
            go_roundw
            case rel => exact ⟨d, i + 1, i + 1, by go_num, by go_num, by omega, by omega, by omega, hown, hb, hD⟩
            case measure => simp [intOf]; omega
        · rw [hin a i (by omega) ha hs1] at hD
          have hD := Lib.hid hD
          have hne : (l.getD i 0).toNat ≠ 32 := fun e => hs1 (UInt8.toNat_inj.1 e)
          clear hidx hpl hend hsep hin hs1
          generalize (l.getD i 0).toNat = y at *
          have h1z : ((y : Int) == 32) = false := by simp; omega
          clear hne
          go_wp2_with fail
          go_roundw
          case rel => exact ⟨d, a, i + 1, rfl, by go_num, by omega, by omega, by omega, hown, hb, hD⟩
          case measure => simp [intOf]; omega
    · have hD2 := hD.out
      rw [hov a i (by omega), List.append_nil] at hD2
      subst hD2
      have hlz : ¬ (i : Int) ≤ (s.size : Int) := by omega
      obtain ⟨a', cp, rfl⟩ := own_len hown
      clear hidx hpl hend hsep hin hov hD
      generalize d = L at *
      by_cases h0 : L = []
      · have HN := Lib.hid (Hnone.out h0)
        subst h0
        go_wp2_with fail
        go_ret2
        exact madeW_nil hb HN.out.2 HN.out.1.symm
      have hlen : 0 < L.length := List.length_pos_iff.2 h0
      have hlz2 : ((L.length : Int) == 0) = false := by simp; omega
      have H0 := Lib.hid h0
      have HF := Lib.hid (firstE_drop L)
      have hLl := hLl.out
      clear h0 Hnone
      go_wp2_with fail
      go_loopw [43] (fun v wx => ∃ i : Nat, v = .int .i64 i ∧ i ≤ L.length ∧ Below w.heap.size w wx ∧ wx.ownsRow w.heap.size 9 1 (.slice a' L.length cp) L.length (wcells L) ∧ Hid (firstE (L.drop i) = firstE L)) (fun v _ => L.length - (intOf v).toNat)
      case atStart => exact ⟨0, rfl, Nat.zero_le _, hb, hown, Lib.hid (by rw [List.drop_zero])⟩
      case round =>
        clear hown hb
        obtain ⟨i, rfl, hil, hb, ho, HV⟩ := hrel
        have hsz := hb.size
        by_cases hlt : i < L.length
        · have hz : (i : Int) < (L.length : Int) := by omega
          obtain ⟨g, rfl, hg, hc⟩ := own_at ho i hlt
          have cW := rword_any (ba (L.getD i [])) wr (by rw [ba_size]; have := hwl.out i; omega) (hE.below hb)
          rw [strV_ba] at hc
          have hq : (ba (L.getD i [])).data.toList = L.getD i [] := rfl
          have HE := HV.out
          rw [HF.out i hlt] at HE
          rw [hq] at cW
          by_cases hW : wordE (L.getD i []) = 0
          · rw [if_pos hW] at HE
            rw [hW] at cW
            have HE := Lib.hid HE
            clear hq hW HV
            generalize ba (L.getD i []) = Y at *
            go_wp2_with fail
            refine cW.mono ?_
            rintro e w3 ⟨rfl, hb3⟩
            go_wp2_with fail
            go_roundw
            case rel => exact ⟨i + 1, by go_num, by omega, below_grow hb hsz hb3, own_stays ho hb3, HE⟩
            case measure => simp [intOf]; omega
          · rw [if_neg hW] at HE
            have HB := Lib.hid (Hbad.out _ H0.out HE.symm hW)
            have hWz : (wordE (L.getD i []) == 0) = false := by simpa using hW
            clear hq hW HV HE
            generalize ba (L.getD i []) = Y at *
            generalize wordE (L.getD i []) = Z at *
            go_wp2_with fail
            refine cW.mono ?_
            rintro e w3 ⟨rfl, hb3⟩
            go_wp2_with fail
            go_ret2
            exact madeW_nil (below_grow hb hsz hb3) HB.out.2 HB.out.1.symm
        · obtain rfl : i = L.length := by omega
          have HG := Lib.hid (Hgood.out H0.out (by have h := HV.out; rw [List.drop_length] at h; exact h.symm))
          have hz : ¬ (L.length : Int) < (L.length : Int) := by omega
          go_wp2_with fail
          go_ret2
          exact madeW_row hb HG.out.2 HG.out.1.symm ho
end Go.Proofs.YtheemefggkcfbaaDoor
