import Derived.Test.YtheemefggkcfbaaDoorR14
import Derived.Test.YtheemefggkcfbaaDoorP2
namespace Go.Proofs.YtheemefggkcfbaaDoor
open Go Go.Lib Go.RowKit Go.Shelf Go.Sort
/-- A text's words and what they are worth. -/
def MadeW (B : Nat) (ws : List (List UInt8)) (err : Int) (w : World) (e : Ending) (w' : World) : Prop :=
  ∃ v, e = .returned (.tuple #[v, .int .i64 err]) ∧ w'.ownsRow B 9 1 v ws.length (wcells ws) ∧ Below B w w'
theorem madeW_nil {B : Nat} {w w' : World} {ts : List (List UInt8)} {err er : Int} (h : Below B w w') (ht : ts = []) (he : er = err) : MadeW B ts err w (.returned (.tuple #[.slice none 0 0, .int .i64 er])) w' := by
  subst ht he
  exact ⟨_, rfl, World.ownsRow_nil _ _ _ _, h⟩
theorem madeW_row {B : Nat} {w w' : World} {v : Value} {ts us : List (List UInt8)} {err er : Int} (h : Below B w w') (ht : ts = us) (he : er = err) (ho : w'.ownsRow B 9 1 v us.length (wcells us)) : MadeW B ts err w (.returned (.tuple #[v, .int .i64 er])) w' := by
  subst ht he
  exact ⟨_, rfl, ho, h⟩
theorem pieces_any (s : ByteArray) (w : World) (hs : s.size ≤ 65536) (hE : Env w) :
    ∃ P : List (List UInt8), P.filter (fun x => !x.isEmpty) = spW s.data.toList ∧ 1 ≤ P.length ∧ P.length ≤ s.size + 1 ∧ Calls Tryd.prog 69 #[.string s, .string ⟨#[32]⟩] w (Made w.heap.size 9 1 P.length (wcells P) w) := by
  have hn := splitB_all sepS (by decide) 0 _ s rfl
  have hc := countB_le sepS (by decide) s.size s (Nat.le_refl _)
  refine ⟨_, split_filter _ s rfl, ?_, ?_, split_any s _ w hE (by omega) hn (by show Lib.countB s sepS + 1 ≤ _; unfold maxLen; omega) rfl⟩
  · rw [List.length_map, hn]; omega
  · rw [List.length_map, hn]; omega
theorem own_some {w : World} {B e size n : Nat} {v : Value} {xs : List Value} (h : w.ownsRow B e size v n xs) (hn : 1 ≤ n) : v ≠ .slice none 0 0 := by
  rintro rfl
  rcases h.2 with ⟨_, h2⟩ | ⟨g, cap, cur, e, _⟩
  · omega
  · cases e
theorem spk_none {l : List UInt8} (h : spW l = []) : spkE l = 1 ∧ spkL l = [] := by
  have e : spkE l = 1 := by unfold spkE; rw [if_pos h]
  exact ⟨e, by unfold spkL; rw [e]; rfl⟩
theorem spk_bad {l : List UInt8} {z : Int} (h : spW l ≠ []) (h2 : firstE (spW l) = z) (h3 : z ≠ 0) : spkE l = z ∧ spkL l = [] := by
  have e : spkE l = z := by unfold spkE; rw [if_neg h, h2]
  exact ⟨e, by unfold spkL; rw [e, if_neg h3]⟩
theorem spk_good {l : List UInt8} (h : spW l ≠ []) (h2 : firstE (spW l) = 0) : spkE l = 0 ∧ spkL l = spW l := by
  have e : spkE l = 0 := by unfold spkE; rw [if_neg h, h2]
  exact ⟨e, by unfold spkL; rw [e]; rfl⟩
set_option maxHeartbeats 4000000 in
set_option maxRecDepth 100000 in
theorem spk_any (s : ByteArray) (w : World) (hs : s.size ≤ 65536) (hE : Env w) :
    Calls Tryd.prog 32 #[.string s] w (MadeW w.heap.size (spkL s.data.toList) (spkE s.data.toList) w) := by
  obtain ⟨P, hP, hP1, hP2, c⟩ := pieces_any s w hs hE
  have hLl : (spW s.data.toList).length ≤ s.size + 1 := by
    have h := spW_len s.data.toList
    rw [← size_eq] at h; exact h
  have hwl : ∀ i, ((spW s.data.toList).getD i []).length ≤ s.size := by
    intro i
    have h := spW_getD_len s.data.toList i
    rw [← size_eq] at h; exact h
  have Hnone := Lib.hid (@spk_none s.data.toList)
  have Hbad := Lib.hid (fun z => @spk_bad s.data.toList z)
  have Hgood := Lib.hid (@spk_good s.data.toList)
  generalize spkL s.data.toList = TS at *
  generalize spkE s.data.toList = ER at *
  generalize spW s.data.toList = L at *
  go_enter Tryd.func32, Tryd.ntmps32
  go_wp2_with fail
  refine c.mono ?_
  rintro e w1 ⟨v, rfl, ho, hb⟩
  have cD := delete_any P w1 v w.heap.size (own_some ho hP1) ho (by unfold maxLen; omega)
  rw [hP] at cD
  have hsz1 := hb.size
  obtain ⟨a, cp, rfl⟩ := own_len ho
  clear c ho hP
  go_wp2_with fail
  refine cD.mono ?_
  rintro e w2 ⟨v, rfl, ho, hb2⟩
  have hbb := hb.trans hb2
  clear cD hb hb2
  obtain ⟨a, cp, rfl⟩ := own_len ho
  by_cases h0 : L = []
  · have HN := Lib.hid (Hnone.out h0)
    subst h0
    go_wp2_with fail
    go_ret2
    exact madeW_nil hbb HN.out.2 HN.out.1.symm
  have hlen : 0 < L.length := List.length_pos_iff.2 h0
  have hlz : ((L.length : Int) == 0) = false := by simp; omega
  have H0 := Lib.hid h0
  have HF := Lib.hid (firstE_drop L)
  clear h0 Hnone
  go_wp2_with fail
  go_loopw [16] (fun v wx => ∃ i : Nat, v = .int .i64 i ∧ i ≤ L.length ∧ Below w.heap.size w wx ∧ wx.ownsRow w.heap.size 9 1 (.slice a L.length cp) L.length (wcells L) ∧ Hid (firstE (L.drop i) = firstE L)) (fun v _ => L.length - (intOf v).toNat)
  case atStart => exact ⟨0, rfl, Nat.zero_le _, hbb, ho, Lib.hid (by rw [List.drop_zero])⟩
  case round =>
    clear ho hbb
    obtain ⟨i, rfl, hil, hb, ho, HV⟩ := hrel
    have hsz := hb.size
    by_cases hlt : i < L.length
    · have hz : (i : Int) < (L.length : Int) := by omega
      obtain ⟨g, rfl, hg, hc⟩ := own_at ho i hlt
      have cW := word_any (ba (L.getD i [])) wr (by rw [ba_size]; have := hwl i; omega) (hE.below hb)
      rw [strV_ba] at hc
      have hq : (ba (L.getD i [])).data.toList = L.getD i [] := rfl
      have HE := HV.out
      rw [HF.out i hlt] at HE
      rw [hq] at cW
      by_cases hW : wordE (L.getD i []) = 0
      · rw [if_pos hW] at HE
        rw [hW] at cW
        have HE := Lib.hid HE
        clear hq hW HV
        generalize ba (L.getD i []) = Y at *
        go_wp2_with fail
        refine cW.mono ?_
        rintro e w3 ⟨rfl, hb3⟩
        go_wp2_with fail
        go_roundw
        case rel => exact ⟨i + 1, by go_num, by omega, below_grow hb hsz hb3, own_stays ho hb3, HE⟩
        case measure => simp [intOf]; omega
      · rw [if_neg hW] at HE
        have HB := Lib.hid (Hbad.out _ H0.out HE.symm hW)
        have hWz : (wordE (L.getD i []) == 0) = false := by simpa using hW
        clear hq hW HV HE
        generalize ba (L.getD i []) = Y at *
        generalize wordE (L.getD i []) = Z at *
        go_wp2_with fail
        refine cW.mono ?_
        rintro e w3 ⟨rfl, hb3⟩
        go_wp2_with fail
        go_ret2
        exact madeW_nil (below_grow hb hsz hb3) HB.out.2 HB.out.1.symm
    · obtain rfl : i = L.length := by omega
      have HG := Lib.hid (Hgood.out H0.out (by have h := HV.out; rw [List.drop_length] at h; exact h.symm))
      have hz : ¬ (L.length : Int) < (L.length : Int) := by omega
      go_wp2_with fail
      go_ret2
      exact madeW_row hb HG.out.2 HG.out.1.symm ho
end Go.Proofs.YtheemefggkcfbaaDoor
