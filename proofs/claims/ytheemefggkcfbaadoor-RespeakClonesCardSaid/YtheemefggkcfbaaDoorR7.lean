import Derived.Test.YtheemefggkcfbaaDoorR6
namespace Go.Proofs.YtheemefggkcfbaaDoor
open Go Go.Lib Go.RowKit Go.Shelf
theorem spR_int (R : Nat) : spR R = (((R : Int) == 32) || ((R : Int) == 160)) := by
  unfold spR
  congr 1
  · exact Bool.eq_iff_iff.2 (by simp; omega)
  · exact Bool.eq_iff_iff.2 (by simp; omega)
set_option maxHeartbeats 4000000 in
set_option maxRecDepth 100000 in
theorem rword_any (s : ByteArray) (w : World) (hs : s.size < 9223372036854775807) (hE : Env w) :
    Calls Tryd.prog 35 #[.string s] w fun e w' => e = .returned (.int .i64 (wordE s.data.toList)) ∧ Below w.heap.size w w' := by
  obtain ⟨he1, he2⟩ := empty_str s
  have cV := Tryd.utf8_ValidString s w (by omega) hE.tabs
  by_cases h0 : s.data.toList = []
  · rw [wordE_form (Or.inl h0)]
    have x1 : s.toList = [] := he1.2 h0
    clear he1 he2 cV h0
    go_enter Tryd.func35, Tryd.ntmps35
    go_wp2_with fail
    go_ret
    exact ⟨rfl, Below.refl _ _⟩
  have x1 : s.toList.isEmpty = false := by rw [he2]; simpa using h0
  have x2 : ¬ s.toList = [] := fun h => h0 (he1.1 h)
  clear he1 he2
  cases hv : validD s.data.toList
  · rw [wordE_form (Or.inr (Or.inl hv))]
    rw [hv] at cV
    clear hv h0
    go_enter Tryd.func35, Tryd.ntmps35
    go_wp2_with (go_at_call 71; refine cV.mono ?_; rintro e w1 ⟨rfl, hb1⟩)
    go_ret
    exact ⟨rfl, hb1⟩
  rw [hv] at cV
  have F1 := Lib.hid (fun h => wordE_form (l := s.data.toList) (Or.inr (Or.inr h)))
  have F2 := Lib.hid (fun h => @wordE_char s.data.toList h0 hv h)
  have F3 := Lib.hid (fun h => @wordE_width s.data.toList h0 hv h)
  have hrun := runesAt_zero s
  have cC := fun w hE => rcarries_any s w (by omega) hE
  have cR := fun w => Tryd.utf8_RuneCountInString s w hs
  rw [runeCount_runes] at cR
  generalize wordE s.data.toList = Z at *
  generalize carC s.data.toList = CC at *
  obtain ⟨N, hN⟩ : ∃ N, (runes s.data.toList).length = N := ⟨_, rfl⟩
  obtain ⟨A, hA⟩ : ∃ A, (runes s.data.toList).any spR = A := ⟨_, rfl⟩
  rw [hN] at cR
  rw [hA] at F1
  rw [hA, hN] at F3
  rw [hA] at F2
  have hA0 : Hid ((runesAt s 0).any spR = A) := Lib.hid hA
  clear hN hA hrun h0 hv
  go_enter Tryd.func35, Tryd.ntmps35
  go_wp2_with (go_at_call 71; refine cV.mono ?_; rintro e w1 ⟨rfl, hb1⟩)
  clear cV
  go_loopg [4] s.size (fun gf s4 wx => ∃ (pos : Nat), wx.heap[w1.heap.size]? = some (.stringIter s pos) ∧ Below w1.heap.size w1 wx ∧ Hid ((runesAt s pos).any spR = A) ∧ s.size ≤ pos + gf)
  case atStart => exact ⟨0, World.iter_heap w1 s 0, below_iter _ _ _, hA0, by omega⟩
  case round =>
    clear hA0
    obtain ⟨pos, hit, hbw, HA, hg⟩ := hrel
    by_cases hp : pos < s.size
    · obtain ⟨g', rfl⟩ : ∃ g', gk = g' + 1 := ⟨gk - 1, by omega⟩
      have hnx : ∀ ty, (Instr.next (.pointer (some ⟨w1.heap.size, 0, none⟩)) true ty).run Tryd.prog wr = _ := fun ty => Lib.run_next_any_at wr w1.heap.size s pos ty hit hp
      have hwd := Lib.decode_width_pos s pos hp
      have hc := HA.out
      rw [runesAt_step s pos hp, List.any_cons, spR_int] at hc
      have hit2 := Lib.iterAt_heap wr w1.heap.size s pos (pos + (Utf8.decode s pos).2) hit
      have hbw2 := Lib.below_iterAt hbw (k := w1.heap.size) (Nat.le_refl _) s (pos + (Utf8.decode s pos).2)
      generalize (Utf8.decode s pos).2 = K at *
      generalize (Utf8.decode s pos).1 = R at *
      generalize wr.iterAt w1.heap.size s (pos + K) = W at *
      clear HA
      by_cases h32 : (R : Int) = 32
      · have hz : Hid (Z = 4) := Lib.hid (F1.out (by rw [← hc, h32]; rfl))
        have e32 : ((R : Int) == 32) = true := by simpa using h32
        clear hc h32
        go_wp2_with fail
        go_ret
        exact ⟨ret_int hz.out.symm, below_trans hb1 hbw2⟩
      · have e32 : ((R : Int) == 32) = false := by simpa using h32
        by_cases h160 : (R : Int) = 160
        · have hz : Hid (Z = 4) := Lib.hid (F1.out (by rw [← hc, h160]; rfl))
          have e160 : ((R : Int) == 160) = true := by simpa using h160
          clear hc h32 h160
          go_wp2_with fail
          go_ret
          exact ⟨ret_int hz.out.symm, below_trans hb1 hbw2⟩
        · have e160 : ((R : Int) == 160) = false := by simpa using h160
          have HA2 : Hid ((runesAt s (pos + K)).any spR = A) := by rw [e32, e160] at hc; exact Lib.hid hc
          clear hc h32 h160
          go_wp2_with fail
          go_roundg g'
          case measure => omega
          case rel => exact ⟨pos + K, hit2, hbw2, HA2, by omega⟩
    · have hnx : ∀ ty, (Instr.next (.pointer (some ⟨w1.heap.size, 0, none⟩)) true ty).run Tryd.prog wr = _ := fun ty => Lib.run_next_end_at wr w1.heap.size s pos ty hit hp
      have hAf : A = false := by rw [← HA.out, runesAt_end s pos hp]; rfl
      have hbx := below_trans hb1 hbw
      have cC1 := cC wr (hE.below hbx)
      cases CC
      · have hz : Hid (Z = 10) := Lib.hid (F2.out hAf rfl)
        clear HA hAf
        go_wp2_with (go_at_call 74; refine cC1.mono ?_; rintro e w2 ⟨rfl, hb2⟩)
        go_ret
        exact ⟨ret_int hz.out.symm, below_trans hbx hb2⟩
      · have hzz := F3.out hAf rfl
        clear HA hAf
        by_cases hN : 32 < N
        · have hz : Hid (Z = 11) := Lib.hid (by rw [hzz, if_pos hN])
          have hNz : (32 : Int) < (N : Int) := by omega
          clear hzz
          go_wp2_with (first | (go_at_call 74; refine cC1.mono ?_; rintro e w2 ⟨rfl, hb2⟩) | (go_at_call 66; refine (cR _).mono ?_; rintro e w3 ⟨rfl, pos, rfl⟩))
          go_ret
          exact ⟨ret_int hz.out.symm, below_trans (below_trans hbx hb2) (below_iter _ _ _)⟩
        · have hz : Hid (Z = 0) := Lib.hid (by rw [hzz, if_neg hN])
          have hNz : ¬ (32 : Int) < (N : Int) := by omega
          clear hzz
          go_wp2_with (first | (go_at_call 74; refine cC1.mono ?_; rintro e w2 ⟨rfl, hb2⟩) | (go_at_call 66; refine (cR _).mono ?_; rintro e w3 ⟨rfl, pos, rfl⟩))
          go_ret
          exact ⟨ret_int hz.out.symm, below_trans (below_trans hbx hb2) (below_iter _ _ _)⟩
end Go.Proofs.YtheemefggkcfbaaDoor
