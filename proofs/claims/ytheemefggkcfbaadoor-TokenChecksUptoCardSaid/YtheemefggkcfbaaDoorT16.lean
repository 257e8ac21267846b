import Derived.Test.YtheemefggkcfbaaDoorT15
namespace Go.Proofs.YtheemefggkcfbaaDoor
open Go Go.Lib Go.RowKit Go.Shelf
theorem split_words {l m : List UInt8} (h : words l = words m) : splitE l = splitE m ∧ splitL l = splitL m := by
  have e : splitE l = splitE m := by unfold splitE; rw [h]
  exact ⟨e, by unfold splitL; rw [e, h]⟩
theorem app_list (a b : ByteArray) : (a ++ b).data.toList = a.data.toList ++ b.data.toList := by
  rw [← toList_data, ← toList_data, ← toList_data]; simp [ByteArray.toList_eq]
set_option maxHeartbeats 4000000 in
theorem law_spaces (s t : ByteArray) (f : Bool) (w : World) (hs : s.size < 9223372036854775807) (ht : t.size < 9223372036854775807) (hE : Env w) :
    Calls Tryd.prog 6 #[.string s, .string t, .bool f] w fun e w' => e = .returned (.bool true) ∧ Below w.heap.size w w' := by
  have cA := awake_any w hE
  have cS := fun w => short_any s w hs
  have cT := fun w => short_any t w ht
  have hl : (ba (short s.data.toList)).size ≤ 300 := by rw [ba_size]; exact short_len _
  have hl2 : (ba (short t.data.toList)).size ≤ 300 := by rw [ba_size]; exact short_len _
  generalize ba (short s.data.toList) = S at *
  generalize ba (short t.data.toList) = T at *
  have HW := fun g => Lib.hid (split_words (words_spaces S.data.toList T.data.toList g))
  cases f
  · have W := HW false
    have c1 := fun w hE => split_any' (S ++ ⟨#[32]⟩ ++ T) w (by rw [ByteArray.size_append, ByteArray.size_append]; show S.size + 1 + T.size ≤ _; omega) hE
    have c2 := fun w hE => split_any' (⟨#[10]⟩ ++ S ++ ⟨#[32, 32]⟩ ++ T ++ ⟨#[32]⟩) w (by rw [ByteArray.size_append, ByteArray.size_append, ByteArray.size_append, ByteArray.size_append]; show 1 + S.size + 2 + T.size + 1 ≤ _; omega) hE
    have l1 : (S ++ ⟨#[32]⟩ ++ T).data.toList = S.data.toList ++ 32 :: T.data.toList := by
      rw [app_list, app_list]; show S.data.toList ++ [32] ++ T.data.toList = _; simp
    have l2 : (⟨#[10]⟩ ++ S ++ ⟨#[32, 32]⟩ ++ T ++ ⟨#[32]⟩ : ByteArray).data.toList = 10 :: (S.data.toList ++ ((if false then [32, 10, 10, 32] else [32, 32]) ++ (T.data.toList ++ [32]))) := by
      rw [app_list, app_list, app_list, app_list]; show [10] ++ S.data.toList ++ [32, 32] ++ T.data.toList ++ [32] = _; simp
    rw [l1] at c1
    rw [l2, W.out.1, W.out.2] at c2
    have hN := splitL_len (S.data.toList ++ 32 :: T.data.toList)
    generalize splitL (S.data.toList ++ 32 :: T.data.toList) = D at *
    generalize splitE (S.data.toList ++ 32 :: T.data.toList) = ER at *
    clear W HW l1 l2
    go_enter Tryd.func6, Tryd.ntmps6
    go_wp2_with fail
    refine cA.mono ?_
    rintro e w1 ⟨rfl, hb1⟩
    go_wp2_with fail
    refine (cS _).mono ?_
    rintro e w1' ⟨rfl, rfl⟩
    go_wp2_with fail
    refine (cT _).mono ?_
    rintro e w1' ⟨rfl, rfl⟩
    go_wp2_with fail
    refine (c1 _ (hE.below hb1)).mono ?_
    rintro e w2 ⟨v, rfl, ho, hb⟩
    obtain ⟨a, c, rfl⟩ := own_len ho
    obtain ⟨R1, _, _⟩ := RdT.own ho
    have hb2 := below_grow hb1 hb1.size hb
    clear cA ho hb hb1 c1 cS cT
    go_wp2_with fail
    refine (c2 _ (hE.below hb2)).mono ?_
    rintro e w3 ⟨v, rfl, ho, hb⟩
    obtain ⟨a', c', rfl⟩ := own_len ho
    obtain ⟨R2, _, _⟩ := RdT.own ho
    have R1' := R1.stays hb
    have hb3 := below_grow hb2 hb2.size hb
    have cE := equal_any a a' D.length D.length c c' D D w3 rfl rfl (by omega) (by omega) R1' R2
    have HI : Hid (decide (D = D) = true) := Lib.hid (by simp)
    rw [HI.out] at cE
    clear ho hb hb2 c2 R1
    go_wp2_with fail
    refine cE.mono ?_
    rintro e w4 ⟨rfl, hb⟩
    have hb4 := below_grow hb3 hb3.size hb
    go_wp2_with fail
    go_ret
    exact ⟨ret_true (by simp), hb4⟩
  · have W := HW true
    have c1 := fun w hE => split_any' (S ++ ⟨#[32]⟩ ++ T) w (by rw [ByteArray.size_append, ByteArray.size_append]; show S.size + 1 + T.size ≤ _; omega) hE
    have c2 := fun w hE => split_any' (⟨#[10]⟩ ++ S ++ ⟨#[32, 10, 10, 32]⟩ ++ T ++ ⟨#[32]⟩) w (by rw [ByteArray.size_append, ByteArray.size_append, ByteArray.size_append, ByteArray.size_append]; show 1 + S.size + 4 + T.size + 1 ≤ _; omega) hE
    have l1 : (S ++ ⟨#[32]⟩ ++ T).data.toList = S.data.toList ++ 32 :: T.data.toList := by
      rw [app_list, app_list]; show S.data.toList ++ [32] ++ T.data.toList = _; simp
    have l2 : (⟨#[10]⟩ ++ S ++ ⟨#[32, 10, 10, 32]⟩ ++ T ++ ⟨#[32]⟩ : ByteArray).data.toList = 10 :: (S.data.toList ++ ((if true then [32, 10, 10, 32] else [32, 32]) ++ (T.data.toList ++ [32]))) := by
      rw [app_list, app_list, app_list, app_list]; show [10] ++ S.data.toList ++ [32, 10, 10, 32] ++ T.data.toList ++ [32] = _; simp
    rw [l1] at c1
    rw [l2, W.out.1, W.out.2] at c2
    have hN := splitL_len (S.data.toList ++ 32 :: T.data.toList)
    generalize splitL (S.data.toList ++ 32 :: T.data.toList) = D at *
    generalize splitE (S.data.toList ++ 32 :: T.data.toList) = ER at *
    clear W HW l1 l2
    go_enter Tryd.func6, Tryd.ntmps6
    go_wp2_with fail
    refine cA.mono ?_
    rintro e w1 ⟨rfl, hb1⟩
    go_wp2_with fail
    refine (cS _).mono ?_
    rintro e w1' ⟨rfl, rfl⟩
    go_wp2_with fail
    refine (cT _).mono ?_
    rintro e w1' ⟨rfl, rfl⟩
    go_wp2_with fail
    refine (c1 _ (hE.below hb1)).mono ?_
    rintro e w2 ⟨v, rfl, ho, hb⟩
    obtain ⟨a, c, rfl⟩ := own_len ho
    obtain ⟨R1, _, _⟩ := RdT.own ho
    have hb2 := below_grow hb1 hb1.size hb
    clear cA ho hb hb1 c1 cS cT
    go_wp2_with fail
    refine (c2 _ (hE.below hb2)).mono ?_
    rintro e w3 ⟨v, rfl, ho, hb⟩
    obtain ⟨a', c', rfl⟩ := own_len ho
    obtain ⟨R2, _, _⟩ := RdT.own ho
    have R1' := R1.stays hb
    have hb3 := below_grow hb2 hb2.size hb
    have cE := equal_any a a' D.length D.length c c' D D w3 rfl rfl (by omega) (by omega) R1' R2
    have HI : Hid (decide (D = D) = true) := Lib.hid (by simp)
    rw [HI.out] at cE
    clear ho hb hb2 c2 R1
    go_wp2_with fail
    refine cE.mono ?_
    rintro e w4 ⟨rfl, hb⟩
    have hb4 := below_grow hb3 hb3.size hb
    go_wp2_with fail
    go_ret
    exact ⟨ret_true (by simp), hb4⟩
end Go.Proofs.YtheemefggkcfbaaDoor
