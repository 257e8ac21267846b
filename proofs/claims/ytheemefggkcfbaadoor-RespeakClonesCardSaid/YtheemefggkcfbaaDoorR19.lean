import Derived.Test.YtheemefggkcfbaaDoorR18
namespace Go.Proofs.YtheemefggkcfbaaDoor
open Go Go.Lib Go.RowKit Go.Shelf
theorem info59 : (Tryd.prog.info? 59).map (fun i => (i.zero, i.size, i.bytes)) = some (some (.agg #[.string ⟨#[]⟩, .bool false, .bool false]), 3, 24) := by kernel_rfl
theorem add_addr (g off j : Nat) : (⟨g, off, none⟩ : Addr).add j = ⟨g, off + j, none⟩ := by unfold Addr.add; split <;> simp_all
theorem row_news {w : World} {g off : Nat} {xs : List Value} (o : Obj) (hg : g < w.heap.size) (h : ∀ j u, xs[j]? = some u → w.cell? ⟨g, off + j, none⟩ = some u) : ∀ j u, xs[j]? = some u → (w.alloc o).cell? ((⟨g, off, none⟩ : Addr).add j) = some u := by
  intro j u hu
  rw [add_addr, ((below1 (B := w.heap.size) o (Nat.le_refl _)).cell (p := ⟨g, off + j, none⟩) hg)]
  exact h j u hu
theorem one_scells : ∀ l : List Spk, ∀ u ∈ scells l, u.oneCell' = true
  | [], u, h => by simp [scells] at h
  | x :: t, u, h => by
    rw [scells, List.mem_append] at h
    rcases h with h | h
    · simp [scell, strV] at h
      rcases h with rfl | rfl | rfl <;> rfl
    · exact one_scells t u h
theorem one_wcells (l : List (List UInt8)) : ∀ u ∈ wcells l, u.oneCell' = true := by
  intro u h
  simp [wcells, strV] at h
  obtain ⟨x, _, rfl⟩ := h
  rfl
set_option maxHeartbeats 4000000 in
set_option maxRecDepth 100000 in
theorem clone59 (w : World) (v : Value) (n : Nat) (xs : List Value) (h : RowR w 3 v n xs) (h1 : ∀ u ∈ xs, u.oneCell' = true) (hn : n ≤ 100000) :
    Calls Tryd.prog 75 #[v] w (Made w.heap.size 59 3 n xs w) := by
  obtain ⟨i0, hi, iz0, iz1, iz2⟩ := info_parts info59
  have hq : ∀ (w : World) (a : Option Addr) (n c n' c' : Nat), (binOp .eql 51 (.slice a n c) (.slice none n' c')).run Tryd.prog w = .ok (.bool a.isNone) w := fun w a n c n' c' => Lib.run_eql_slice_nil w _ _ a n c n' c' Tryd.underlying51
  obtain ⟨hl, hr⟩ := h
  rcases hr with ⟨rfl, rfl⟩ | ⟨g, off, cap, rfl, hg, hc, hx⟩
  · obtain rfl : xs = [] := List.length_eq_zero_iff.1 (by omega)
    go_enter Tryd.func75, Tryd.ntmps75
    go_wp2_with fail
    go_ret
    exact ⟨_, rfl, World.ownsRow_nil _ _ _ _, Below.refl _ _⟩
  · have hown := World.ownsRow_lit (base := w.heap.size) (e := 59) (size := 3) w #[] 0 (Nat.le_refl _) (by unfold maxLen; omega) rfl
    go_enter Tryd.func75, Tryd.ntmps75
    go_wp2_with (at_builtin; refine wpList_append_own _ rfl _ _ 51 rfl w.heap.size 59 i0 _ 3 24 Tryd.underlying51 hi iz0 iz1 iz2 rfl (by decide) _ _ _ rfl hown ⟨g, off, none⟩ n cap xs rfl ?c0 ?c1 ?c2 ?c3 ?c4 ?c5 ?_)
    try (case c0 => exact hl)
    try (case c1 => exact hx)
    try (case c2 => exact h1)
    case c3 => unfold maxLen; omega
    case c4 => omega
    try (case c5 => simp)
    · intro v' w1 hown' hgrow _
      have hb := app_step hown (below1 (B := w.heap.size) _ (Nat.le_refl _)) (by simp) hgrow
      clear hown hgrow hi iz0 iz1 iz2
      go_wp2_with fail
      go_ret
      exact ⟨_, rfl, hown', hb⟩
set_option maxHeartbeats 4000000 in
set_option maxRecDepth 100000 in
theorem clone9 (w : World) (v : Value) (n : Nat) (xs : List Value) (h : RowR w 1 v n xs) (h1 : ∀ u ∈ xs, u.oneCell' = true) (hn : n ≤ 100000) :
    Calls Tryd.prog 77 #[v] w (Made w.heap.size 9 1 n xs w) := by
  obtain ⟨i0, hi, iz0, iz1, iz2⟩ := info_parts info9
  have hq : ∀ (w : World) (a : Option Addr) (n c n' c' : Nat), (binOp .eql 42 (.slice a n c) (.slice none n' c')).run Tryd.prog w = .ok (.bool a.isNone) w := fun w a n c n' c' => Lib.run_eql_slice_nil w _ _ a n c n' c' Tryd.underlying42
  obtain ⟨hl, hr⟩ := h
  rcases hr with ⟨rfl, rfl⟩ | ⟨g, off, cap, rfl, hg, hc, hx⟩
  · obtain rfl : xs = [] := List.length_eq_zero_iff.1 (by omega)
    go_enter Tryd.func77, Tryd.ntmps77
    go_wp2_with fail
    go_ret
    exact ⟨_, rfl, World.ownsRow_nil _ _ _ _, Below.refl _ _⟩
  · have hown := World.ownsRow_lit (base := w.heap.size) (e := 9) (size := 1) w #[] 0 (Nat.le_refl _) (by unfold maxLen; omega) rfl
    go_enter Tryd.func77, Tryd.ntmps77
    go_wp2_with (at_builtin; refine wpList_append_own _ rfl _ _ 42 rfl w.heap.size 9 i0 _ 1 16 Tryd.underlying42 hi iz0 iz1 iz2 rfl (by decide) _ _ _ rfl hown ⟨g, off, none⟩ n cap xs rfl ?c0 ?c1 ?c2 ?c3 ?c4 ?c5 ?_)
    try (case c0 => exact hl)
    try (case c1 => exact hx)
    try (case c2 => exact h1)
    case c3 => unfold maxLen; omega
    case c4 => omega
    try (case c5 => simp)
    · intro v' w1 hown' hgrow _
      have hb := app_step hown (below1 (B := w.heap.size) _ (Nat.le_refl _)) (by simp) hgrow
      clear hown hgrow hi iz0 iz1 iz2
      go_wp2_with fail
      go_ret
      exact ⟨_, rfl, hown', hb⟩
end Go.Proofs.YtheemefggkcfbaaDoor
