import Derived.Test.YtheemefggkcfbaaDoorR12
namespace Go.Proofs.YtheemefggkcfbaaDoor
open Go Go.Lib Go.RowKit Go.Shelf
set_option maxHeartbeats 4000000 in
set_option maxRecDepth 100000 in
theorem word_any (s : ByteArray) (w : World) (hs : s.size < 4294967281) (hE : Env w) :
    Calls Tryd.prog 34 #[.string s] w fun e w' => e = .returned (.int .i64 (wordE s.data.toList)) ∧ Below w.heap.size w w' := by
  obtain ⟨he1, he2⟩ := empty_str s
  have cV := Tryd.utf8_ValidString s w (by omega) hE.tabs
  by_cases h0 : s.data.toList = []
  · rw [wordE_form (Or.inl h0)]
    have x1 : s.toList = [] := he1.2 h0
    clear he1 he2 cV h0
    go_enter Tryd.func34, Tryd.ntmps34
    go_wp2_with fail
    go_ret
    exact ⟨rfl, Below.refl _ _⟩
  have x1 : s.toList.isEmpty = false := by rw [he2]; simpa using h0
  have x2 : ¬ s.toList = [] := fun h => h0 (he1.1 h)
  clear he1 he2
  cases hv : validD s.data.toList
  · rw [wordE_form (Or.inr (Or.inl hv))]
    rw [hv] at cV
    clear hv h0
    go_enter Tryd.func34, Tryd.ntmps34
    go_wp2_with (go_at_call 71; refine cV.mono ?_; rintro e w1 ⟨rfl, hb1⟩)
    go_ret
    exact ⟨rfl, hb1⟩
  rw [hv] at cV
  have F1 := Lib.hid (fun h => wordE_form (l := s.data.toList) (Or.inr (Or.inr h)))
  have F2 := Lib.hid (fun h => @wordE_char s.data.toList h0 hv h)
  have F3 := Lib.hid (fun h => @wordE_width s.data.toList h0 hv h)
  have cA := fun w => contains_nbs s w hs
  have cC := fun w => carries_any s w
  have cR := fun w => Tryd.utf8_RuneCountInString s w (by omega)
  rw [runeCount_runes] at cR
  change ∀ w, Calls Tryd.prog 72 #[.string s, .string ⟨#[32, 194, 160]⟩] w _ at cA
  generalize wordE s.data.toList = Z at *
  generalize carC s.data.toList = CC at *
  generalize (runes s.data.toList).length = N at *
  generalize (runes s.data.toList).any spR = A at *
  clear h0 hv
  cases A
  · cases CC
    · have hz : Hid (Z = 10) := Lib.hid (F2.out rfl rfl)
      clear F1 F2 F3
      go_enter Tryd.func34, Tryd.ntmps34
      go_wp2_with fail
      refine cV.mono ?_
      rintro e w1 ⟨rfl, hb1⟩
      go_wp2_with fail
      refine (cA _).mono ?_
      rintro e w2 ⟨rfl, hb2⟩
      go_wp2_with fail
      refine (cC _).mono ?_
      rintro e w3 ⟨rfl, hb3⟩
      go_wp2_with fail
      go_ret
      exact ⟨ret_int hz.out.symm, below_trans (below_trans hb1 hb2) hb3⟩
    · by_cases hN : 32 < N
      · have hz : Hid (Z = 11) := Lib.hid (by rw [F3.out rfl rfl, if_pos hN])
        have hNz : (32 : Int) < (N : Int) := by omega
        clear F1 F2 F3
        go_enter Tryd.func34, Tryd.ntmps34
        go_wp2_with fail
        refine cV.mono ?_
        rintro e w1 ⟨rfl, hb1⟩
        go_wp2_with fail
        refine (cA _).mono ?_
        rintro e w2 ⟨rfl, hb2⟩
        go_wp2_with fail
        refine (cC _).mono ?_
        rintro e w3 ⟨rfl, hb3⟩
        go_wp2_with fail
        refine (cR _).mono ?_
        rintro e w4 ⟨rfl, pos, rfl⟩
        go_wp2_with fail
        go_ret
        exact ⟨ret_int hz.out.symm, below_trans (below_trans (below_trans hb1 hb2) hb3) (below_iter _ _ _)⟩
      · have hz : Hid (Z = 0) := Lib.hid (by rw [F3.out rfl rfl, if_neg hN])
        have hNz : ¬ (32 : Int) < (N : Int) := by omega
        clear F1 F2 F3
        go_enter Tryd.func34, Tryd.ntmps34
        go_wp2_with fail
        refine cV.mono ?_
        rintro e w1 ⟨rfl, hb1⟩
        go_wp2_with fail
        refine (cA _).mono ?_
        rintro e w2 ⟨rfl, hb2⟩
        go_wp2_with fail
        refine (cC _).mono ?_
        rintro e w3 ⟨rfl, hb3⟩
        go_wp2_with fail
        refine (cR _).mono ?_
        rintro e w4 ⟨rfl, pos, rfl⟩
        go_wp2_with fail
        go_ret
        exact ⟨ret_int hz.out.symm, below_trans (below_trans (below_trans hb1 hb2) hb3) (below_iter _ _ _)⟩
  · have hz : Hid (Z = 4) := Lib.hid (F1.out rfl)
    clear F1 F2 F3
    go_enter Tryd.func34, Tryd.ntmps34
    go_wp2_with fail
    refine cV.mono ?_
    rintro e w1 ⟨rfl, hb1⟩
    go_wp2_with fail
    refine (cA _).mono ?_
    rintro e w2 ⟨rfl, hb2⟩
    go_wp2_with fail
    go_ret
    exact ⟨ret_int hz.out.symm, below_trans hb1 hb2⟩
end Go.Proofs.YtheemefggkcfbaaDoor
