import Derived.Test.YtheemefggkcfbaaDoorV4
namespace Go.Proofs.YtheemefggkcfbaaDoor
open Go Go.Lib Go.RowKit Go.Shelf
/-! ### the laws' own comparisons, at equal lists -/
set_option maxHeartbeats 4000000 in
set_option maxRecDepth 100000 in
theorem texts_same (w : World) (v1 v2 : Value) (l : List (List UInt8)) (h1 : RowR w 1 v1 l.length (wcells l)) (h2 : RowR w 1 v2 l.length (wcells l)) (hl : l.length ≤ 100000) :
    Calls Tryd.prog 36 #[v1, v2] w fun e w' => e = .returned (.bool true) ∧ Below w.heap.size w w' := by
  obtain ⟨a1, c1, rfl⟩ := h1.len
  obtain ⟨a2, c2, rfl⟩ := h2.len
  have H1 := Lib.hid h1
  have H2 := Lib.hid h2
  clear h1 h2
  go_enter Tryd.func36, Tryd.ntmps36
  go_wp2_with fail
  go_loopw [13] (fun iv wx => ∃ i : Nat, iv = .int .i64 i ∧ i ≤ l.length ∧ Below w.heap.size w wx) (fun v _ => l.length - (intOf v).toNat)
  case atStart => exact ⟨0, rfl, Nat.zero_le _, Below.refl _ _⟩
  case round =>
    obtain ⟨i, rfl, hil, hb⟩ := hrel
    by_cases hlt : i < l.length
    · have hz : (i : Int) < (l.length : Int) := by omega
      have R1 := H1.out.below hb
      have R2 := H2.out.below hb
      rcases R1.2 with ⟨_, e⟩ | ⟨g, off, cap, e, hg, hc, _⟩
      · omega
      rcases R2.2 with ⟨_, e'⟩ | ⟨g', off', cap', e', hg', hc', _⟩
      · omega
      obtain ⟨rfl, rfl⟩ : a1 = some ⟨g, off, none⟩ ∧ c1 = cap := by injection e with e1 _ e3; exact ⟨e1, e3⟩
      obtain ⟨rfl, rfl⟩ : a2 = some ⟨g', off', none⟩ ∧ c2 = cap' := by injection e' with e1 _ e3; exact ⟨e1, e3⟩
      have y1 := RowR.at1 R1 i hlt
      have y2 := RowR.at1 R2 i hlt
      generalize l.getD i [] = Y at *
      clear R1 R2 e e'
      have HB := Lib.hid hb
      clear hb
      go_wp2_with fail
      go_quiet (fail)
      go_wp2_with fail
      go_roundw
      case rel => exact ⟨i + 1, by go_num, by omega, below_dn HB.out _⟩
      case measure => simp [intOf]; omega
    · obtain rfl : i = l.length := by omega
      have hz : ¬ (l.length : Int) < (l.length : Int) := by omega
      go_wp2_with fail
      go_ret
      exact ⟨rfl, hb⟩
set_option maxHeartbeats 4000000 in
set_option maxRecDepth 100000 in
theorem words_same (w : World) (v1 v2 : Value) (l : List Spk) (h1 : RowR w 3 v1 l.length (scells l)) (h2 : RowR w 3 v2 l.length (scells l)) (hl : l.length ≤ 100000) :
    Calls Tryd.prog 44 #[v1, v2] w fun e w' => e = .returned (.bool true) ∧ Below w.heap.size w w' := by
  obtain ⟨a1, c1, rfl⟩ := h1.len
  obtain ⟨a2, c2, rfl⟩ := h2.len
  have H1 := Lib.hid h1
  have H2 := Lib.hid h2
  clear h1 h2
  go_enter Tryd.func44, Tryd.ntmps44
  go_wp2_with fail
  go_loopw [13] (fun iv wx => ∃ i : Nat, iv = .int .i64 i ∧ i ≤ l.length ∧ Below w.heap.size w wx) (fun v _ => l.length - (intOf v).toNat)
  case atStart => exact ⟨0, rfl, Nat.zero_le _, Below.refl _ _⟩
  case round =>
    obtain ⟨i, rfl, hil, hb⟩ := hrel
    by_cases hlt : i < l.length
    · have hz : (i : Int) < (l.length : Int) := by omega
      have R1 := H1.out.below hb
      have R2 := H2.out.below hb
      rcases R1.2 with ⟨_, e⟩ | ⟨g, off, cap, e, hg, hc, _⟩
      · omega
      rcases R2.2 with ⟨_, e'⟩ | ⟨g', off', cap', e', hg', hc', _⟩
      · omega
      obtain ⟨rfl, rfl⟩ : a1 = some ⟨g, off, none⟩ ∧ c1 = cap := by injection e with e1 _ e3; exact ⟨e1, e3⟩
      obtain ⟨rfl, rfl⟩ : a2 = some ⟨g', off', none⟩ ∧ c2 = cap' := by injection e' with e1 _ e3; exact ⟨e1, e3⟩
      obtain ⟨y0, y1, y2⟩ := RowR.at3 R1 i hlt
      obtain ⟨z0, z1, z2⟩ := RowR.at3 R2 i hlt
      rw [← Nat.add_assoc] at y1 y2 z1 z2
      generalize l.getD i default = Y at *
      clear R1 R2 e e'
      have HB := Lib.hid hb
      clear hb
      go_wp2_with fail
      go_quiet (fail)
      go_wp2_with fail
      go_roundw
      case rel => exact ⟨i + 1, by go_num, by omega, below_dn HB.out _⟩
      case measure => simp [intOf]; omega
    · obtain rfl : i = l.length := by omega
      have hz : ¬ (l.length : Int) < (l.length : Int) := by omega
      go_wp2_with fail
      go_ret
      exact ⟨rfl, hb⟩
end Go.Proofs.YtheemefggkcfbaaDoor
