import Derived.Test.YtheemefggkcfbaaDoorR5
namespace Go.Proofs.YtheemefggkcfbaaDoor
open Go Go.Lib Go.RowKit Go.Shelf
theorem inCC_bad : inCC 65533 = false := by decide +kernel
theorem carC_validD : ∀ (n : Nat) (l : List UInt8), l.length ≤ n → carC l = true → validD l = true
  | n, [], _, _ => rfl
  | 0, _ :: _, h, _ => by simp at h
  | n + 1, b :: t, hl, h => by
    have hne : b :: t ≠ [] := by simp
    have hw := decodeL_width (b :: t)
    unfold carC at h
    rw [runes_step _ hne] at h
    simp only [List.all_cons, Bool.and_eq_true] at h
    rw [validD_step _ hne, if_neg]
    · exact carC_validD n _ (by rw [List.length_drop]; simp at hl ⊢; omega) h.2
    · rintro ⟨h1, _⟩
      rw [h1, inCC_bad] at h
      simp at h
theorem carC_false {l : List UInt8} (h : validD l = false) : carC l = false := by
  cases h' : carC l with
  | false => rfl
  | true => rw [carC_validD _ l (Nat.le_refl _) h'] at h; cases h
theorem notCC2 (R : Nat) : inCC R = !(kindC (R : Int) == 0) := rfl
set_option maxHeartbeats 4000000 in
set_option maxRecDepth 100000 in
theorem rcarries_any (s : ByteArray) (w : World) (hs : s.size ≤ 9223372036854775807) (hE : Env w) :
    Calls Tryd.prog 74 #[.string s] w fun e w' => e = .returned (.bool (carC s.data.toList)) ∧ Below w.heap.size w w' := by
  have cV := Tryd.utf8_ValidString s w hs hE.tabs
  by_cases hv : validD s.data.toList = true
  case neg =>
    have hv' : validD s.data.toList = false := by simpa using hv
    rw [carC_false hv']
    rw [hv'] at cV
    clear hv hv'
    go_enter Tryd.func74, Tryd.ntmps74
    go_wp2_with (refine cV.mono ?_; rintro e w1 ⟨rfl, hb1⟩)
    go_ret
    exact ⟨rfl, hb1⟩
  obtain ⟨Z, hZ⟩ : ∃ Z, carC s.data.toList = Z := ⟨_, rfl⟩
  rw [hZ]
  rw [hv] at cV
  clear hv
  go_enter Tryd.func74, Tryd.ntmps74
  go_wp2_with (refine cV.mono ?_; rintro e w1 ⟨rfl, hb1⟩)
  go_loopg [4] s.size (fun gf s4 wx => ∃ (pos : Nat), wx.heap[w1.heap.size]? = some (.stringIter s pos) ∧ Below w1.heap.size w1 wx ∧ (runesAt s pos).all inCC = Z ∧ s.size ≤ pos + gf)
  case atStart => exact ⟨0, World.iter_heap w1 s 0, below_iter _ _ _, hZ, by omega⟩
  case round =>
    obtain ⟨pos, hit, hbw, hc, hg⟩ := hrel
    by_cases hp : pos < s.size
    · obtain ⟨g', rfl⟩ : ∃ g', gk = g' + 1 := ⟨gk - 1, by omega⟩
      have hnx : ∀ ty, (Instr.next (.pointer (some ⟨w1.heap.size, 0, none⟩)) true ty).run Tryd.prog wr = _ := fun ty => Lib.run_next_any_at wr w1.heap.size s pos ty hit hp
      have hwd := Lib.decode_width_pos s pos hp
      rw [runesAt_step s pos hp] at hc
      have hit2 := Lib.iterAt_heap wr w1.heap.size s pos (pos + (Utf8.decode s pos).2) hit
      have hbw2 := Lib.below_iterAt hbw (k := w1.heap.size) (Nat.le_refl _) s (pos + (Utf8.decode s pos).2)
      generalize (Utf8.decode s pos).2 = K at *
      generalize (Utf8.decode s pos).1 = R at *
      generalize wr.iterAt w1.heap.size s (pos + K) = W at *
      have c := rkind_any (R : Int) W
      rw [List.all_cons, notCC2] at hc
      generalize kindC (R : Int) = I at *
      by_cases hi : I = 0
      · have hcz : Hid (Z = false) := Lib.hid (by rw [← hc, hi]; rfl)
        subst hi
        clear hc hZ
        go_wp2_with (refine c.mono ?_; rintro e w2 ⟨rfl, hb2⟩)
        go_ret
        exact ⟨ret_bool hcz.out.symm, below_trans hb1 (below_grow hbw2 hbw2.size hb2)⟩
      · have hi0 : (I == 0) = false := by simpa using hi
        have hcz : (runesAt s (pos + K)).all inCC = Z := by rw [← hc, hi0]; rfl
        clear hi hc
        go_wp2_with (refine c.mono ?_; rintro e w2 ⟨rfl, hb2⟩)
        go_roundg g'
        case measure => omega
        case rel => exact ⟨pos + K, (hb2.block _ (heap_lt hit2)).trans hit2, below_grow hbw2 hbw2.size hb2, hcz, by omega⟩
    · have hnx : ∀ ty, (Instr.next (.pointer (some ⟨w1.heap.size, 0, none⟩)) true ty).run Tryd.prog wr = _ := fun ty => Lib.run_next_end_at wr w1.heap.size s pos ty hit hp
      rw [runesAt_end s pos hp] at hc
      go_wp2
      go_ret
      exact ⟨ret_bool (by rw [← hc]; rfl), below_trans hb1 hbw⟩
/-! ### words -/
def spR (r : Nat) : Bool := r == 32 || r == 160
/-- The error of a word. -/
def wordE (l : List UInt8) : Int := if l = [] ∨ validD l = false ∨ (runes l).any spR = true then 4 else if carC l = true then (if 32 < (runes l).length then 11 else 0) else 10
theorem wordE_form {l : List UInt8} (h : l = [] ∨ validD l = false ∨ (runes l).any spR = true) : wordE l = 4 := by unfold wordE; rw [if_pos h]
theorem wordE_char {l : List UInt8} (h0 : l ≠ []) (h1 : validD l = true) (h2 : (runes l).any spR = false) (h3 : carC l = false) : wordE l = 10 := by
  unfold wordE; rw [if_neg (by rintro (h | h | h); exact h0 h; rw [h1] at h; cases h; rw [h2] at h; cases h), h3]; rfl
theorem wordE_width {l : List UInt8} (h0 : l ≠ []) (h1 : validD l = true) (h2 : (runes l).any spR = false) (h3 : carC l = true) : wordE l = if 32 < (runes l).length then 11 else 0 := by
  unfold wordE; rw [if_neg (by rintro (h | h | h); exact h0 h; rw [h1] at h; cases h; rw [h2] at h; cases h), if_pos h3]
theorem empty_str (s : ByteArray) : (s.toList = [] ↔ s.data.toList = []) ∧ s.toList.isEmpty = s.data.toList.isEmpty := by rw [toList_data]; exact ⟨Iff.rfl, rfl⟩
end Go.Proofs.YtheemefggkcfbaaDoor
