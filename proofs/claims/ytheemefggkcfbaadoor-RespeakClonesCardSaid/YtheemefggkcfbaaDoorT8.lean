import Derived.Test.YtheemefggkcfbaaDoorT7
import Derived.Deep.DeepCutAuto
import Derived.Deep.CutBlock
namespace Go.Proofs.YtheemefggkcfbaaDoor
open Go Go.Lib Go.RowKit Go.Shelf
set_option maxHeartbeats 4000000 in
set_option maxRecDepth 100000 in
theorem strength_any (s t : ByteArray) (w : World) (hs : s.size < 4294967281) (ht : t.size < 4294967281) (hE : Env w) :
    Calls Tryd.prog 21 #[.string s, .string t] w fun e w' => e = .returned (.int .i64 (strW s.data.toList t.data.toList)) ∧ Below w.heap.size w w' := by
  have cT := Tryd.strings_TrimRight_laid s ⟨#[34, 39, 41, 93]⟩ w (by omega) (by decide) (ascii_of_all (by decide))
  have cS := fun w => small_any s w (by omega)
  have cN := fun w => small_any t w (by omega)
  have cA := fun w hE => tight_any (ba (low s.data.toList)) w hE
  have cJ := fun w hE => joined_any (ba (low t.data.toList)) w hE
  have hm := minus_eq s
  have he := empty_eq (trimQ s.data.toList)
  have hix := idx_ba (trimQ s.data.toList)
  have hdef := strW_def s.data.toList t.data.toList
  have hTl : (ba (trimQ s.data.toList)).size < 4294967281 := by
    have h := trimQ_len s.data.toList
    rw [← size_eq] at h
    rw [ba_size]; omega
  have hTp : trimQ s.data.toList ≠ [] → 1 ≤ (ba (trimQ s.data.toList)).size := fun h => by
    rw [ba_size]; exact List.length_pos_iff.2 h
  have hB0 : trimQ s.data.toList = [] → lastB (trimQ s.data.toList) = 0 := fun h => by rw [h]; rfl
  rw [show Lib.trimRightS s.data.toList ((⟨#[34, 39, 41, 93]⟩ : ByteArray).data.toList) = trimQ s.data.toList from rfl] at cT
  rw [show (ba (low s.data.toList)).data.toList = low s.data.toList from rfl] at cA
  rw [show (ba (low t.data.toList)).data.toList = low t.data.toList from rfl] at cJ
  change ∀ w, Calls Tryd.prog 63 #[.string s] w fun e w' => e = .returned (.string (ba (low s.data.toList))) ∧ Below w.heap.size w w' at cS
  change ∀ w, Calls Tryd.prog 63 #[.string t] w fun e w' => e = .returned (.string (ba (low t.data.toList))) ∧ Below w.heap.size w w' at cN
  change Calls Tryd.prog 61 #[.string s, .string ⟨#[34, 39, 41, 93]⟩] w fun e w' => e = .returned (.string (ba (trimQ s.data.toList))) ∧ Below w.heap.size w w' at cT
  generalize strW s.data.toList t.data.toList = Z at *
  generalize lastB (trimQ s.data.toList) = B at *
  generalize ba (low s.data.toList) = S1 at *
  generalize ba (low t.data.toList) = T1 at *
  generalize memW (low s.data.toList) tightW = M1 at *
  generalize memW (low t.data.toList) joinedW = M2 at *
  generalize trimQ s.data.toList = T at *
  have Hdef := Lib.hid hdef
  have Hm := Lib.hid hm
  have He := Lib.hid he
  have HB0 := Lib.hid hB0
  clear hdef hm he hB0
  go_enter Tryd.func21, Tryd.ntmps21
  go_wp2_with fail
  refine cT.mono ?_
  rintro e w1 ⟨rfl, hb1⟩
  clear cT
  go_upto_if 10 with fail
  generalize (ba T).toList.isEmpty = E at *
  go_cut [6] (fun s6 wx => s6 = .int .u8 B ∧ w1 = wx)
  case first =>
    cases E
    · have hT : T ≠ [] := by have h := He.out; intro h'; simp [h'] at h
      have hix1 := hix hT
      have hTp1 := hTp hT
      clear hT
      go_wp2_with fail
      go_meet
      exact ⟨rfl, rfl⟩
    · have hT : T = [] := by have h := He.out; simpa using h.symm
      have hB := Lib.hid (HB0.out hT)
      clear hT
      go_wp2_with fail
      go_meet
      exact ⟨by rw [hB.out]; rfl, rfl⟩
  case rest =>
    obtain ⟨rfl, rfl⟩ := hcut
    clear hix hTl hTp He HB0
    have fin : ∀ n : Int, Z = n → Ending.returned (.int .i64 n) = Ending.returned (.int .i64 Z) := fun n h => by rw [h]
    have Fin := Lib.hid fin
    clear fin
    by_cases h46 : B = 46
    · subst h46
      have HZ : Hid (Z = 5) := by have h := Hdef.out; simp at h; exact Lib.hid h
      clear Hdef
      go_wp2_with fail
      go_ret
      exact ⟨Fin.out _ HZ.out, hb1⟩
    by_cases h33 : B = 33
    · subst h33
      have HZ : Hid (Z = 5) := by have h := Hdef.out; simp at h; exact Lib.hid h
      clear Hdef
      go_wp2_with fail
      go_ret
      exact ⟨Fin.out _ HZ.out, hb1⟩
    by_cases h63 : B = 63
    · subst h63
      have HZ : Hid (Z = 5) := by have h := Hdef.out; simp at h; exact Lib.hid h
      clear Hdef
      go_wp2_with fail
      go_ret
      exact ⟨Fin.out _ HZ.out, hb1⟩
    by_cases h58 : B = 58
    · subst h58
      have HZ : Hid (Z = 4) := by have h := Hdef.out; simp at h; exact Lib.hid h
      clear Hdef
      go_wp2_with fail
      go_ret
      exact ⟨Fin.out _ HZ.out, hb1⟩
    by_cases h59 : B = 59
    · subst h59
      have HZ : Hid (Z = 4) := by have h := Hdef.out; simp at h; exact Lib.hid h
      clear Hdef
      go_wp2_with fail
      go_ret
      exact ⟨Fin.out _ HZ.out, hb1⟩
    have z46 : ((B : Int) == 46) = false := by simp; omega
    have z33 : ((B : Int) == 33) = false := by simp; omega
    have z63 : ((B : Int) == 63) = false := by simp; omega
    have z58 : ((B : Int) == 58) = false := by simp; omega
    have z59 : ((B : Int) == 59) = false := by simp; omega
    by_cases hw : s.data.toList = minusL
    · have hm1 : (s.toList == [45]) = true := by rw [Hm.out]; simp [hw]
      have HZ : Hid (Z = 4) := by have h := Hdef.out; simp [h46, h33, h63, h58, h59, hw] at h; exact Lib.hid h
      clear Hdef
      clear hw
      go_wp2_with fail
      go_ret
      exact ⟨Fin.out _ HZ.out, hb1⟩
    have hm1 : (s.toList == [45]) = false := by rw [Hm.out]; simp [hw]
    by_cases h44 : B = 44
    · subst h44
      have HZ : Hid (Z = 3) := by have h := Hdef.out; simp [hw] at h; exact Lib.hid h
      clear Hdef
      clear hw
      go_wp2_with fail
      go_ret
      exact ⟨Fin.out _ HZ.out, hb1⟩
    have z44 : ((B : Int) == 44) = false := by simp; omega
    cases M1
    · cases M2
      · have HZ : Hid (Z = 1) := by have h := Hdef.out; simp [h46, h33, h63, h58, h59, h44, hw] at h; exact Lib.hid h
        clear Hdef
        clear hw
        go_wp2_with fail
        refine (cS _).mono ?_
        rintro e w2 ⟨rfl, hb2⟩
        go_wp2_with fail
        refine (cA _ (hE.below (below_trans hb1 hb2))).mono ?_
        rintro e w3 ⟨rfl, hb3⟩
        go_wp2_with fail
        refine (cN _).mono ?_
        rintro e w4 ⟨rfl, hb4⟩
        go_wp2_with fail
        refine (cJ _ (hE.below (below_trans (below_trans (below_trans hb1 hb2) hb3) hb4))).mono ?_
        rintro e w5 ⟨rfl, hb5⟩
        go_wp2_with fail
        go_ret
        exact ⟨Fin.out _ HZ.out, below_trans (below_trans (below_trans (below_trans hb1 hb2) hb3) hb4) hb5⟩
      · have HZ : Hid (Z = 2) := by have h := Hdef.out; simp [h46, h33, h63, h58, h59, h44, hw] at h; exact Lib.hid h
        clear Hdef
        clear hw
        go_wp2_with fail
        refine (cS _).mono ?_
        rintro e w2 ⟨rfl, hb2⟩
        go_wp2_with fail
        refine (cA _ (hE.below (below_trans hb1 hb2))).mono ?_
        rintro e w3 ⟨rfl, hb3⟩
        go_wp2_with fail
        refine (cN _).mono ?_
        rintro e w4 ⟨rfl, hb4⟩
        go_wp2_with fail
        refine (cJ _ (hE.below (below_trans (below_trans (below_trans hb1 hb2) hb3) hb4))).mono ?_
        rintro e w5 ⟨rfl, hb5⟩
        go_wp2_with fail
        go_ret
        exact ⟨Fin.out _ HZ.out, below_trans (below_trans (below_trans (below_trans hb1 hb2) hb3) hb4) hb5⟩
    · have HZ : Hid (Z = 0) := by have h := Hdef.out; simp [h46, h33, h63, h58, h59, h44, hw] at h; exact Lib.hid h
      clear Hdef
      clear hw
      go_wp2_with fail
      refine (cS _).mono ?_
      rintro e w2 ⟨rfl, hb2⟩
      go_wp2_with fail
      refine (cA _ (hE.below (below_trans hb1 hb2))).mono ?_
      rintro e w3 ⟨rfl, hb3⟩
      go_wp2_with fail
      go_ret
      exact ⟨Fin.out _ HZ.out, below_trans (below_trans hb1 hb2) hb3⟩
end Go.Proofs.YtheemefggkcfbaaDoor
