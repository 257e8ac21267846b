import Derived.Test.YtheemefggkcfbaaDoorV2
namespace Go.Proofs.YtheemefggkcfbaaDoor
open Go Go.Lib Go.RowKit Go.Shelf
theorem set6 {w : World} {b : Nat} {p0 p1 p2 p3 p4 p5 x0 x1 x2 x3 x4 x5 : Value} {E : TypeId} (h : w.heap[b]? = some (.cells #[p0, p1, p2, p3, p4, p5] E (0, 0))) :
    ((((((w.setCell ⟨b, 0, none⟩ x0).setCell ⟨b, 1, none⟩ x1).setCell ⟨b, 2, none⟩ x2).setCell ⟨b, 3, none⟩ x3).setCell ⟨b, 4, none⟩ x4).setCell ⟨b, 5, none⟩ x5).heap[b]? = some (.cells #[x0, x1, x2, x3, x4, x5] E (0, 0)) :=
  blk_set (blk_set (blk_set (blk_set (blk_set (blk_set h)))))
theorem lit59 (w : World) : ∀ (W : World) (n : Nat), W.heap.size = n → w.heap.size ≤ n → (W.alloc (.cells #[] 59)).ownsRow w.heap.size 59 3 (.slice (some ⟨n, 0, none⟩) 0 0) 0 [] := by
  rintro W n rfl hn
  exact World.ownsRow_lit (base := w.heap.size) (e := 59) (size := 3) W #[] 0 hn (by unfold maxLen; omega) rfl
theorem lit9 (w : World) : ∀ (W : World) (n : Nat), W.heap.size = n → w.heap.size ≤ n → (W.alloc (.cells #[] 9)).ownsRow w.heap.size 9 1 (.slice (some ⟨n, 0, none⟩) 0 0) 0 [] := by
  rintro W n rfl hn
  exact World.ownsRow_lit (base := w.heap.size) (e := 9) (size := 1) W #[] 0 hn (by unfold maxLen; omega) rfl
/-- The zero of a reference speaker. -/
abbrev rz : Array Value := #[.int .i64 0, .slice none 0 0, .bool false, .int .i64 0, .slice none 0 0, .bool false]
theorem RfAt.mk' {w : World} {K : Nat → Prop} {S : Sp} {vo vt : Value} (h1 : RowR w 3 vo S.opn.length (scells S.opn)) (h2 : RowR w 1 vt S.tkn.length (wcells S.tkn)) (h3 : ∀ k, vo.ownBlock = some k → K k) (h4 : ∀ k, vt.ownBlock = some k → K k) : RfAt w K (rv S.hold vo S.mark S.free vt S.brk) S :=
  ⟨vo, vt, rfl, h1, h2, h3, h4⟩
theorem rfnew_at (w : World) (K : Nat → Prop) (n : Nat) : RfAt w K (rv n (.slice none 0 0) false 0 (.slice none 0 0) false) (Sp.new n) :=
  ⟨.slice none 0 0, .slice none 0 0, rfl, ⟨rfl, Or.inl ⟨rfl, rfl⟩⟩, ⟨rfl, Or.inl ⟨rfl, rfl⟩⟩, (fun k hk => by cases hk), (fun k hk => by cases hk)⟩
set_option maxHeartbeats 4000000 in
set_option maxRecDepth 100000 in
theorem rnew_any (w : World) (n : Nat) (hn : n ≤ 16) :
    Calls Tryd.prog 45 #[.int .i64 n] w fun e w' => e = .returned (.tuple #[rv n (.slice none 0 0) false 0 (.slice none 0 0) false, .int .i64 0]) ∧ Below w.heap.size w w' := by
  have h1 : ¬ (n : Int) < 0 := by omega
  have h2 : ¬ (16 : Int) < n := by omega
  have h3 : (decide ((n : Int) < 0)) = false := by simp
  go_enter Tryd.func45, Tryd.ntmps45
  go_wp2_with fail
  go_returns
  exact ⟨rfl, below1 _ (Nat.le_refl _)⟩
set_option maxHeartbeats 4000000 in
set_option maxRecDepth 100000 in
theorem rnew_bad (w : World) (n : Int) (hn : n < 0 ∨ 16 < n) :
    Calls Tryd.prog 45 #[.int .i64 n] w fun e w' => e = .returned (.tuple #[rv 0 (.slice none 0 0) false 0 (.slice none 0 0) false, .int .i64 2]) ∧ Below w.heap.size w w' := by
  have hd : decide (n < 0) = true ∨ (decide (n < 0) = false ∧ ¬ n < 0 ∧ 16 < n) := by
    rcases hn with h | h
    · exact Or.inl (by simpa using h)
    · exact Or.inr ⟨by simp; omega, by omega, h⟩
  rcases hd with hd | ⟨hd, h1, h2⟩
  all_goals
    go_enter Tryd.func45, Tryd.ntmps45
    go_wp2_with fail
    go_returns
    exact ⟨rfl, below1 _ (Nat.le_refl _)⟩
set_option maxHeartbeats 4000000 in
set_option maxRecDepth 100000 in
theorem rbreak_any (w : World) (K : Nat → Prop) (v : Value) (S : Sp) (h : RfAt w K v S) :
    Calls Tryd.prog 80 #[v] w fun e w' => ∃ v', e = .returned v' ∧ RfAt w' K v' { S with brk := true } ∧ Below w.heap.size w w' := by
  obtain ⟨vo, vt, rfl, h1, h2, h3, h4⟩ := h
  obtain ⟨ao, co, rfl⟩ := h1.len
  obtain ⟨at4, ct4, rfl⟩ := h2.len
  have H1 := Lib.hid (And.intro h1 (And.intro h2 (And.intro h3 h4)))
  clear h1 h2 h3 h4
  go_enter Tryd.func80, Tryd.ntmps80
  go_wp2_with fail
  go_returns
  have hb := ((below1 (B := w.heap.size) (w := w) (.cells (rc S.hold (.slice ao S.opn.length co) S.mark S.free (.slice at4 S.tkn.length ct4) true) 67) (Nat.le_refl _)).alloc (by simp) (.cells (rc S.hold (.slice ao S.opn.length co) S.mark S.free (.slice at4 S.tkn.length ct4) true) 67))
  exact ⟨_, rfl, ⟨_, _, rfl, H1.out.1.below hb, H1.out.2.1.below hb, H1.out.2.2.1, H1.out.2.2.2⟩, hb⟩
set_option maxHeartbeats 4000000 in
set_option maxRecDepth 100000 in
theorem rflush_any (w : World) (K : Nat → Prop) (v : Value) (S : Sp) (h : RfAt w K v S) :
    Calls Tryd.prog 82 #[v] w fun e w' => ∃ v', e = .returned v' ∧ RfAt w' K v' { S with free := S.opn.length } ∧ Below w.heap.size w w' := by
  obtain ⟨vo, vt, rfl, h1, h2, h3, h4⟩ := h
  obtain ⟨ao, co, rfl⟩ := h1.len
  obtain ⟨at4, ct4, rfl⟩ := h2.len
  have H1 := Lib.hid (And.intro h1 (And.intro h2 (And.intro h3 h4)))
  clear h1 h2 h3 h4
  go_enter Tryd.func82, Tryd.ntmps82
  go_wp2_with fail
  go_returns
  have hb := ((below1 (B := w.heap.size) (w := w) (.cells (rc S.hold (.slice ao S.opn.length co) S.mark S.opn.length (.slice at4 S.tkn.length ct4) S.brk) 67) (Nat.le_refl _)).alloc (by simp) (.cells (rc S.hold (.slice ao S.opn.length co) S.mark S.opn.length (.slice at4 S.tkn.length ct4) S.brk) 67))
  exact ⟨_, rfl, ⟨_, _, rfl, H1.out.1.below hb, H1.out.2.1.below hb, H1.out.2.2.1, H1.out.2.2.2⟩, hb⟩
set_option maxHeartbeats 4000000 in
set_option maxRecDepth 100000 in
theorem ropen_any (w : World) (K : Nat → Prop) (v : Value) (S : Sp) (h : RfAt w K v S) (hS : S.ok) :
    Calls Tryd.prog 47 #[v] w (Made w.heap.size 59 3 S.opn.length (scells S.opn) w) := by
  obtain ⟨i0, hi, iz0, iz1, iz2⟩ := info_parts info59
  obtain ⟨vo, vt, rfl, h1, h2, h3, h4⟩ := h
  obtain ⟨ao, co, rfl⟩ := h1.len
  obtain ⟨at4, ct4, rfl⟩ := h2.len
  have hlen := hS.len
  have HB : Hid (∀ o : Obj, Below w.heap.size w (w.alloc o)) := Lib.hid (fun o => below1 o (Nat.le_refl _))
  have HO := Lib.hid (lit59 w)
  have H1 := Lib.hid h1
  clear h1 h2 h3 h4
  go_enter Tryd.func47, Tryd.ntmps47
  go_wp2_with (at_builtin; refine wpList_append_row rfl _ _ 51 rfl w.heap.size 59 i0 _ 3 24 Tryd.underlying51 hi iz0 iz1 iz2 rfl (by decide) _ _ _ rfl (HO.out _ (w.heap.size + 1) (by simp) (by omega)) _ S.opn.length (scells S.opn) rfl ((H1.out.alloc _).alloc _) (one_scells _) (by unfold maxLen; omega) (by omega) (by simp; omega) ?_)
  intro v' w1 hown' hgrow _
  have hb := app_step (HO.out _ (w.heap.size + 1) (by simp) (by omega)) ((HB.out _).alloc (by simp) _) (by simp; omega) hgrow
  clear hgrow hi iz0 iz1 iz2
  go_wp2_with fail
  go_ret
  exact ⟨_, rfl, by simpa using hown', hb⟩
end Go.Proofs.YtheemefggkcfbaaDoor
