import Derived.Test.YtheemefggkcfbaaDoorR19
import Derived.Deep.RegionWith
import Derived.Deep.DeepCutAuto
namespace Go.Proofs.YtheemefggkcfbaaDoor
open Go Go.Lib Go.RowKit Go.Shelf
def spkV (x : Spk) : Value := .agg #[strV x.1, .bool x.2.1, .bool x.2.2]
def Sp.can (S : Sp) : Bool := !(S.opn.length == 0 || (decide (S.opn.length ≤ S.hold) && S.free == 0))
def Sp.peek (S : Sp) : Spk := if S.can = true then S.opn.getD 0 default else default
theorem can_none {S : Sp} (h : S.opn.length = 0) : S.can = false ∧ S.peek = default := by
  have e : S.can = false := by unfold Sp.can; simp [h]
  exact ⟨e, by unfold Sp.peek; rw [e]; rfl⟩
theorem can_over {S : Sp} (h2 : S.hold < S.opn.length) : S.can = true ∧ S.peek = S.opn.getD 0 default := by
  have e : S.can = true := by
    unfold Sp.can
    have : ¬ S.opn.length ≤ S.hold := by omega
    simp [this]
    intro e; rw [e] at h2; simp at h2
  exact ⟨e, by unfold Sp.peek; rw [e]; rfl⟩
theorem can_wait {S : Sp} (h2 : S.opn.length ≤ S.hold) (h3 : S.free = 0) : S.can = false ∧ S.peek = default := by
  have e : S.can = false := by unfold Sp.can; simp [h2, h3]
  exact ⟨e, by unfold Sp.peek; rw [e]; rfl⟩
theorem can_free {S : Sp} (h : S.opn.length ≠ 0) (h3 : S.free ≠ 0) : S.can = true ∧ S.peek = S.opn.getD 0 default := by
  have e : S.can = true := by
    unfold Sp.can
    have h' : S.opn ≠ [] := by intro e; rw [e] at h; simp at h
    simp [h3, h']
  exact ⟨e, by unfold Sp.peek; rw [e]; rfl⟩
theorem ret_spk {x y : Spk} {a b : Bool} (h : x = y) (h2 : a = b) : Ending.returned (.tuple #[spkV x, .bool a]) = .returned (.tuple #[spkV y, .bool b]) := by rw [h, h2]
set_option maxHeartbeats 4000000 in
set_option maxRecDepth 100000 in
theorem peek_any (w : World) (O : Nat → Prop) (b : Nat) (S : Sp) (h : SpAt w O b S) (hS : S.ok) :
    Calls Tryd.prog 51 #[ptr b] w fun e w' => e = .returned (.tuple #[spkV S.peek, .bool S.can]) ∧ Below w.heap.size w w' := by
  obtain ⟨vo, vt, h1, h2, h3, h4, h5, h6⟩ := h
  obtain ⟨c0, c1, c2, c3, c4, c5, hf, hlt⟩ := blk_facts h1
  have hlen := hS.len
  have hfree := hS.free
  have hhold := hS.hold
  have Hn := Lib.hid (@can_none S)
  have Ho := Lib.hid (@can_over S)
  have Hw := Lib.hid (@can_wait S)
  have Hf := Lib.hid (@can_free S)
  have hR := RowR.of_own h2
  have hg := fun h => scells_get S.opn 0 h
  generalize S.can = C at *
  generalize S.peek = X at *
  generalize S.opn.getD 0 default = Y at *
  clear h1 h3 h4 h5 h6 hS
  generalize hN : S.opn.length = N at *
  generalize S.hold = H at *
  generalize S.free = F at *
  obtain ⟨a, cp, rfl⟩ := own_len h2
  by_cases hN0 : N = 0
  · obtain ⟨rfl, rfl⟩ := Hn.out hN0
    subst hN0
    clear Hn Ho Hw Hf
    go_enter Tryd.func51, Tryd.ntmps51
    go_wp2_with fail
    go_quiet (fail)
    go_wp2_with fail
    go_returns
    exact ⟨rfl, (((below_dn (below1 _ (Nat.le_refl _)) _).setCell (Nat.le_refl _) _).setCell (Nat.le_refl _) _).setCell (Nat.le_refl _) _⟩

  have hNz : ((N : Int) == 0) = false := by simp; omega
  obtain ⟨g, rfl, hga, hy0, hy1, hy2⟩ : ∃ g, a = some ⟨g, 0, none⟩ ∧ g < w.heap.size ∧ w.cell? ⟨g, 0, none⟩ = some (.string (ba Y.1)) ∧ w.cell? ⟨g, 1, none⟩ = some (.bool Y.2.1) ∧ w.cell? ⟨g, 2, none⟩ = some (.bool Y.2.2) := by
    obtain ⟨hl, h' | ⟨g, off, cap, e, hgl, _, hx⟩⟩ := hR
    · exact absurd h'.2 hN0
    · obtain ⟨y0, y1, y2⟩ := hg (by omega)
      obtain ⟨g', cap', e', _, _⟩ := h2.form (by omega)
      rw [e] at e'
      injection e with e1 _ _
      injection e' with e1' _ _
      injection e1' with e1'
      injection e1' with e2 e3
      subst e2 e3
      have x0 := hx 0 _ y0
      have x1 := hx 1 _ y1
      have x2 := hx 2 _ y2
      exact ⟨g, e1, hgl, by simpa [strV_ba] using x0, by simpa using x1, by simpa using x2⟩
  clear hR hg h2
  by_cases hH : H < N
  · obtain ⟨rfl, rfl⟩ := Ho.out hH
    have hHz : ¬ (N : Int) ≤ (H : Int) := by omega
    have hHz2 : ¬ N ≤ H := by omega
    have hHz3 : (decide ((N : Int) ≤ (H : Int))) = false := by simp; omega
    clear Hn Ho Hw Hf
    go_enter Tryd.func51, Tryd.ntmps51
    go_wp2_with fail
    go_quiet (fail)
    go_wp2_with fail
    go_returns
    exact ⟨rfl, (((below_dn (below1 _ (Nat.le_refl _)) _).setCell (Nat.le_refl _) _).setCell (Nat.le_refl _) _).setCell (Nat.le_refl _) _⟩

  have hHz : (N : Int) ≤ (H : Int) := by omega
  by_cases hF : F = 0
  · obtain ⟨rfl, rfl⟩ := Hw.out (by omega) hF
    subst hF
    clear Hn Ho Hw Hf
    go_enter Tryd.func51, Tryd.ntmps51
    go_wp2_with fail
    go_quiet (fail)
    go_wp2_with fail
    go_returns
    exact ⟨rfl, (((below_dn (below1 _ (Nat.le_refl _)) _).setCell (Nat.le_refl _) _).setCell (Nat.le_refl _) _).setCell (Nat.le_refl _) _⟩

  · obtain ⟨rfl, rfl⟩ := Hf.out hN0 hF
    have hFz : ((F : Int) == 0) = false := by simp; omega
    clear Hn Ho Hw Hf
    go_enter Tryd.func51, Tryd.ntmps51
    go_wp2_with fail
    go_quiet (fail)
    go_wp2_with fail
    go_returns
    exact ⟨rfl, (((below_dn (below1 _ (Nat.le_refl _)) _).setCell (Nat.le_refl _) _).setCell (Nat.le_refl _) _).setCell (Nat.le_refl _) _⟩

end Go.Proofs.YtheemefggkcfbaaDoor
