import Derived.Test.YtheemefggkcfbaaDoorT19
namespace Go.Proofs.YtheemefggkcfbaaDoor
open Go Go.Lib Go.RowKit Go.Shelf
theorem texts_split {l : List UInt8} (h : splitE l = 0) : texts (splitL l) = words l := by
  unfold splitL texts
  rw [if_pos h, tokL_fst]
theorem isW_mem {l x : List UInt8} (h : x ∈ words l) : isW x := words_isW l x h
/-- What is known of the words of a text that is split. -/
theorem split_len {l : List UInt8} (h : splitE l = 0) : lenT (texts (splitL l)) 0 (splitL l).length = lenC (joinB (texts (splitL l))) := by
  have h1 := (splitE_ok h).1
  rw [List.all_eq_true] at h1
  rw [show (splitL l).length = (texts (splitL l)).length by rw [texts_len], lenT_all, texts_split h, len_join _ h1]
theorem words_sum : ∀ (t cur : List UInt8), (joinB (wordsGo cur t)).length ≤ cur.length + t.length
  | [], cur => by
    unfold wordsGo
    split <;> simp [joinB]
  | b :: t, cur => by
    rw [wordsGo_cons]
    by_cases hb : isSep b = true
    · rw [if_pos hb]
      have ih := words_sum t []
      by_cases hc : cur = []
      · rw [if_pos hc, List.nil_append]; simp at ih ⊢; omega
      · rw [if_neg hc]
        show (joinB (cur :: wordsGo [] t)).length ≤ _
        cases hw : wordsGo [] t with
        | nil => simp [joinB]
        | cons y r =>
          rw [hw] at ih
          show (cur ++ 32 :: joinB (y :: r)).length ≤ _
          simp at ih ⊢; omega
    · rw [if_neg hb]
      have ih := words_sum t (cur ++ [b])
      simp at ih ⊢; omega
theorem join_le {l : List UInt8} (h : splitE l = 0) : (joinB (texts (splitL l))).length ≤ l.length := by
  rw [texts_split h]
  have := words_sum l []
  simpa [words] using this
theorem split_again {l : List UInt8} (h : splitE l = 0) : splitE (joinB (texts (splitL l))) = 0 ∧ splitL (joinB (texts (splitL l))) = splitL l := by
  have e : words (joinB (texts (splitL l))) = words l := by
    rw [texts_split h]; exact words_join _ (words_isW l)
  have := split_words e
  rw [this.1, this.2]; exact ⟨h, rfl⟩
theorem firstE_zero : ∀ T : List Tk, (∀ x ∈ T, tokE x = 0) → firstE T = 0
  | [], _ => rfl
  | x :: r, h => by
    show (if tokE x = 0 then firstE r else tokE x) = 0
    rw [if_pos (h x (by simp))]
    exact firstE_zero r (fun y hy => h y (by simp [hy]))
theorem split_check {l : List UInt8} (h : splitE l = 0) : checkT (splitL l) = 0 := by
  obtain ⟨h1, h2⟩ := splitE_ok h
  rw [List.all_eq_true] at h1
  have hl := splitL_len l
  unfold checkT
  rw [if_neg (by omega)]
  apply firstE_zero
  intro x hx
  have hm : x.1 ∈ words l := by rw [← texts_split h]; exact List.mem_map_of_mem hx
  have hw := words_isW l _ hm
  have hr : 0 ≤ x.2 ∧ x.2 ≤ 5 := by
    unfold splitL at hx
    rw [if_pos h] at hx
    exact tokL_range _ x hx
  have hns : x.1.contains 32 = false := by
    cases hc : x.1.contains 32 with
    | false => rfl
    | true =>
      have hmem : (32 : UInt8) ∈ x.1 := by simpa using hc
      have := hw.2 32 hmem
      cases this
  rw [tokE_range hw.1 hns (h1 _ hm), if_neg (by omega)]
theorem split_errs (l : List UInt8) : splitE l = 0 ∨ (splitE l = 9 ∧ splitL l = []) ∨ (splitE l = 10 ∧ splitL l = []) := by
  by_cases h : splitE l = 0
  · exact Or.inl h
  · have hl : splitL l = [] := by unfold splitL; rw [if_neg h]
    right
    unfold splitE at h ⊢
    by_cases h1 : (words l).all validC = true
    · rw [if_pos h1] at h ⊢
      by_cases h2 : 200 < (words l).length
      · rw [if_pos h2]; exact Or.inl ⟨rfl, hl⟩
      · rw [if_neg h2] at h; exact absurd rfl h
    · rw [if_neg h1]; exact Or.inr ⟨rfl, hl⟩
theorem texts_len_le {l : List UInt8} (h : splitE l = 0) : ∀ x ∈ texts (splitL l), x.length ≤ l.length := by
  intro x hx
  rw [texts_split h] at hx
  have := words_mem_len l [] x hx
  simpa using this
set_option maxHeartbeats 4000000 in
theorem law_whole (s : ByteArray) (w : World) (hs : s.size < 9223372036854775807) (hE : Env w) :
    Calls Tryd.prog 7 #[.string s] w fun e w' => e = .returned (.bool true) ∧ Below w.heap.size w w' := by
  have cA := awake_any w hE
  have cS := fun w => short_any s w hs
  have hl := short_len s.data.toList
  have c1 := fun w hE => split_any' (ba (short s.data.toList)) w (by rw [ba_size]; omega) hE
  rw [show (ba (short s.data.toList)).data.toList = short s.data.toList from rfl] at c1
  have hN := splitL_len (short s.data.toList)
  generalize ba (short s.data.toList) = S at *
  rcases split_errs (short s.data.toList) with h0 | h0 | h0
  · have HL := Lib.hid (split_len h0)
    have hj := join_le h0
    have hx := texts_len_le h0
    generalize short s.data.toList = l at *
    rw [h0] at c1
    clear h0
    generalize splitL l = T at *
    go_enter Tryd.func7, Tryd.ntmps7
    go_wp2_with fail
    refine cA.mono ?_
    rintro e w1 ⟨rfl, hb1⟩
    go_wp2_with fail
    refine (cS _).mono ?_
    rintro e w1' ⟨rfl, rfl⟩
    have k1 := c1 w1 (hE.below hb1)
    go_wp2_with fail
    refine k1.mono ?_
    rintro e w2 ⟨v, rfl, ho, hb⟩
    obtain ⟨a, c, rfl⟩ := own_len ho
    obtain ⟨R1, _, _⟩ := RdT.own ho
    have hc := own_cap ho
    have hb2 := below_grow hb1 hb1.size hb
    have k2 := tlen_any a T.length c 0 T.length T w2 rfl hc (by omega) (fun x h => by have := hx x h; omega) (hE.below hb2) R1
    clear cA k1 ho hb hb1 c1 cS
    go_wp2_with fail
    refine k2.mono ?_
    rintro e w3 ⟨rfl, hb⟩
    have hb3 := below_trans hb2 hb
    have R2 := R1.stays hb
    have k3 := join_any a T.length c T w3 rfl (by omega) R2 (by omega)
    clear k2 hb hb2 R1
    go_wp2_with fail
    refine k3.mono ?_
    rintro e w4 ⟨rfl, hb⟩
    have hb4 := below_trans hb3 hb
    have k4 := len_any (ba (joinB (texts T))) w4 (by rw [ba_size]; omega) (hE.below hb4)
    rw [show (ba (joinB (texts T))).data.toList = joinB (texts T) from rfl, ← HL.out] at k4
    clear k3 hb hb3
    go_wp2_with fail
    refine k4.mono ?_
    rintro e w5 ⟨rfl, hb⟩
    have hb5 := below_trans hb4 hb
    go_wp2_with fail
    go_ret
    exact ⟨ret_true (by simp), hb5⟩
  all_goals
    obtain ⟨h1, h2⟩ := h0
    rw [h1] at c1
    clear h1 h2
    generalize splitL (short s.data.toList) = T at *
    go_enter Tryd.func7, Tryd.ntmps7
    go_wp2_with fail
    refine cA.mono ?_
    rintro e w1 ⟨rfl, hb1⟩
    go_wp2_with fail
    refine (cS _).mono ?_
    rintro e w1' ⟨rfl, rfl⟩
    have k1 := c1 w1 (hE.below hb1)
    go_wp2_with fail
    refine k1.mono ?_
    rintro e w2 ⟨v, rfl, ho, hb⟩
    go_wp2_with fail
    go_ret
    exact ⟨rfl, below_grow hb1 hb1.size hb⟩
set_option maxHeartbeats 4000000 in
theorem law_again (s : ByteArray) (w : World) (hs : s.size < 9223372036854775807) (hE : Env w) :
    Calls Tryd.prog 9 #[.string s] w fun e w' => e = .returned (.bool true) ∧ Below w.heap.size w w' := by
  have cA := awake_any w hE
  have cS := fun w => short_any s w hs
  have hl := short_len s.data.toList
  have c1 := fun w hE => split_any' (ba (short s.data.toList)) w (by rw [ba_size]; omega) hE
  rw [show (ba (short s.data.toList)).data.toList = short s.data.toList from rfl] at c1
  have hN := splitL_len (short s.data.toList)
  generalize ba (short s.data.toList) = S at *
  rcases split_errs (short s.data.toList) with h0 | h0 | h0
  · have HA := Lib.hid (split_again h0)
    have HC := Lib.hid (split_check h0)
    have hj := join_le h0
    have hx := texts_len_le h0
    generalize short s.data.toList = l at *
    rw [h0] at c1
    clear h0
    generalize splitL l = T at *
    go_enter Tryd.func9, Tryd.ntmps9
    go_wp2_with fail
    refine cA.mono ?_
    rintro e w1 ⟨rfl, hb1⟩
    go_wp2_with fail
    refine (cS _).mono ?_
    rintro e w1' ⟨rfl, rfl⟩
    have k1 := c1 w1 (hE.below hb1)
    go_wp2_with fail
    refine k1.mono ?_
    rintro e w2 ⟨v, rfl, ho, hb⟩
    obtain ⟨a, c, rfl⟩ := own_len ho
    obtain ⟨R1, _, _⟩ := RdT.own ho
    have hb2 := below_grow hb1 hb1.size hb
    have k3 := join_any a T.length c T w2 rfl (by omega) R1 (by omega)
    clear cA k1 ho hb hb1 c1 cS
    go_wp2_with fail
    refine k3.mono ?_
    rintro e w3 ⟨rfl, hb⟩
    have hb3 := below_trans hb2 hb
    have R2 := R1.stays hb
    have k4 := split_any' (ba (joinB (texts T))) w3 (by rw [ba_size]; omega) (hE.below hb3)
    rw [show (ba (joinB (texts T))).data.toList = joinB (texts T) from rfl, HA.out.1, HA.out.2] at k4
    clear k3 hb hb2 R1
    go_wp2_with fail
    refine k4.mono ?_
    rintro e w4 ⟨v, rfl, ho, hb⟩
    obtain ⟨a', c', rfl⟩ := own_len ho
    obtain ⟨R3, _, _⟩ := RdT.own ho
    have hb4 := below_grow hb3 hb3.size hb
    have R4 := R2.stays hb
    have k5 := equal_any a a' T.length T.length c c' T T w4 rfl rfl (by omega) (by omega) R4 R3
    have HI : Hid (decide (T = T) = true) := Lib.hid (by simp)
    rw [HI.out] at k5
    clear k4 ho hb hb3 R2
    go_wp2_with fail
    refine k5.mono ?_
    rintro e w5 ⟨rfl, hb⟩
    have hb5 := below_trans hb4 hb
    have R5 := R4.stays hb
    have k6 := check_any a T.length c T w5 rfl (by omega) (fun x h => by have := hx x h; omega) (hE.below hb5) R5
    rw [HC.out] at k6
    clear k5 hb hb4 R4 R3
    go_wp2_with fail
    refine k6.mono ?_
    rintro e w6 ⟨rfl, hb⟩
    have hb6 := below_trans hb5 hb
    go_wp2_with fail
    go_ret
    exact ⟨rfl, hb6⟩
  all_goals
    obtain ⟨h1, h2⟩ := h0
    rw [h1, h2] at c1
    clear h1 h2
    go_enter Tryd.func9, Tryd.ntmps9
    go_wp2_with fail
    refine cA.mono ?_
    rintro e w1 ⟨rfl, hb1⟩
    go_wp2_with fail
    refine (cS _).mono ?_
    rintro e w1' ⟨rfl, rfl⟩
    have k1 := c1 w1 (hE.below hb1)
    go_wp2_with fail
    refine k1.mono ?_
    rintro e w2 ⟨v, rfl, ho, hb⟩
    obtain ⟨a, c, rfl⟩ := own_len ho
    go_wp2_with fail
    go_ret
    exact ⟨rfl, below_grow hb1 hb1.size hb⟩
end Go.Proofs.YtheemefggkcfbaaDoor
