import Derived.Test.YtheemefggkcfbaaDoorMD
namespace Go.Proofs.YtheemefggkcfbaaDoor
open Go Go.Lib Go.RowKit Go.Shelf
def Sp.ready (S : Sp) : Int := max (S.free : Int) ((S.opn.length : Int) - (S.hold : Int))
theorem ready_can {S : Sp} (h : S.ok) : (S.ready < 1 → S.can = false) ∧ (¬ S.ready < 1 → S.can = true) := by
  have hf := h.free
  unfold Sp.ready Sp.can
  constructor
  · intro h1
    by_cases h0 : S.opn.length = 0
    · simp [h0]
    · have a : S.opn.length ≤ S.hold := by omega
      have c : S.free = 0 := by omega
      simp [a, c]
  · intro h1
    have h0 : ¬ S.opn.length = 0 := by omega
    have h0' : S.opn ≠ [] := by intro e; rw [e] at h0; exact h0 rfl
    by_cases a : S.opn.length ≤ S.hold
    · have c : ¬ S.free = 0 := by omega
      simp [a, c, h0']
    · simp [a, h0']
set_option maxHeartbeats 4000000 in
set_option maxRecDepth 100000 in
theorem ready_any (w : World) (K : Nat → Prop) (v : Value) (S : Sp) (h : RfAt w K v S) (hS : S.ok) :
    Calls Tryd.prog 127 #[v] w fun e w' => e = .returned (.int .i64 S.ready) ∧ Below w.heap.size w w' := by
  obtain ⟨vo, vt, rfl, h1, h2, h3, h4⟩ := h
  obtain ⟨a, c, rfl⟩ := h1.len
  have hl := hS.len
  have hf := hS.free
  have hh := hS.hold
  have HZ : Hid (S.ready = max (S.free : Int) ((S.opn.length : Int) - (S.hold : Int))) := Lib.hid rfl
  clear h1 h2 h3 h4 hS
  generalize S.ready = Z at *
  generalize S.opn.length = N at *
  generalize S.free = F at *
  generalize S.hold = H at *
  go_enter Tryd.func127, Tryd.ntmps127
  go_wp2_with fail
  go_ret
  exact ⟨ret_int HZ.out.symm, below1 _ (Nat.le_refl _)⟩
set_option maxHeartbeats 4000000 in
set_option maxRecDepth 100000 in
theorem rpeek_any (w : World) (K : Nat → Prop) (v : Value) (S : Sp) (h : RfAt w K v S) (hS : S.ok) :
    Calls Tryd.prog 106 #[v] w fun e w' => e = .returned (.tuple #[spkV S.peek, .bool S.can]) ∧ Below w.heap.size w w' := by
  have cR := fun w h => ready_any w K v S h hS
  have HC := Lib.hid (ready_can hS)
  have HPn : Hid (S.can = false → S.peek = default) := Lib.hid (fun e => by unfold Sp.peek; rw [e]; rfl)
  have HP : Hid (S.can = true → S.peek = S.opn.getD 0 default) := Lib.hid (fun e => by unfold Sp.peek; rw [if_pos e])
  have Hl := Lib.hid (@can_len S)
  have HR := Lib.hid h
  obtain ⟨vo, vt, rfl, h1, h2, h3, h4⟩ := h
  obtain ⟨ao, co, rfl⟩ := h1.len
  obtain ⟨at4, ct4, rfl⟩ := h2.len
  have H1 := Lib.hid h1
  clear h1 h2 h3 h4
  go_enter Tryd.func106, Tryd.ntmps106
  go_wp2_with fail
  refine (cR _ (HR.out.below (((Below.refl _ _).alloc (Nat.le_refl _) _).alloc (by simp) _))).mono ?_
  rintro e w1 ⟨rfl, hb1⟩
  have hbb := (((Below.refl w.heap.size w).alloc (Nat.le_refl _) (.cells #[.int .i64 S.hold, .slice ao S.opn.length co, .bool S.mark, .int .i64 S.free, .slice at4 S.tkn.length ct4, .bool S.brk] 67)).alloc (by simp) (.cells #[.string ⟨#[]⟩, .bool false, .bool false] 59))
  have hb := hbb.trans (hb1.mono hbb.size)
  have k1 := blk_stay (blk_stay (heap_alloc_new w (.cells #[.int .i64 S.hold, .slice ao S.opn.length co, .bool S.mark, .int .i64 S.free, .slice at4 S.tkn.length ct4, .bool S.brk] 67)) (below1 (.cells #[.string ⟨#[]⟩, .bool false, .bool false] 59) (Nat.le_refl _))) hb1
  have k2 := blk_stay (heap_alloc_new (w.alloc (.cells #[.int .i64 S.hold, .slice ao S.opn.length co, .bool S.mark, .int .i64 S.free, .slice at4 S.tkn.length ct4, .bool S.brk] 67)) (.cells #[.string ⟨#[]⟩, .bool false, .bool false] 59)) hb1
  have hsz : (w.alloc (.cells #[.int .i64 S.hold, .slice ao S.opn.length co, .bool S.mark, .int .i64 S.free, .slice at4 S.tkn.length ct4, .bool S.brk] 67)).heap.size = w.heap.size + 1 := by simp
  rw [hsz] at k2
  have HRow := Lib.hid (H1.out.below hb)
  have Hb := Lib.hid hb
  clear cR hb1 hbb hb hsz HR H1
  obtain ⟨c0, c1, c2, c3, c4, c5, hf, hlt⟩ := blk_facts k1
  obtain ⟨r0, r1, r2, rf, rlt⟩ := blk3 k2
  clear k1
  have K2 := Lib.hid k2
  clear k2
  by_cases hr : S.ready < 1
  · have hcan := HC.out.1 hr
    have E := Lib.hid (And.intro hcan (HPn.out hcan))
    clear hcan HC HPn HP Hl
    go_wp2_with fail
    refine post_as (fun W => Below w.heap.size w W ∧ W.heap[w.heap.size + 1]? = some (.cells #[.string ⟨#[]⟩, .bool false, .bool false] 59 (0, 0))) ⟨((Hb.out.setCell (by simp) _).setCell (by simp) _).setCell (by simp) _, set3 K2.out⟩ (fun W ⟨q1, q2⟩ => ?_)
    obtain ⟨s0, s1, s2, _, _⟩ := blk3 q2
    refine bodyPost_ret (v := .tuple #[spkV default, .bool false]) (by simp [results, Tryd.results106, go_sem, s0, s1, s2]; rfl) rfl ?_
    rw [E.out.1, E.out.2]
    exact ⟨rfl, q1⟩
  · have hcan := HC.out.2 (by omega)
    have E := Lib.hid (And.intro hcan (HP.out hcan))
    have hl := Hl.out hcan
    have hlz : (0 : Int) < (S.opn.length : Int) := by omega
    obtain ⟨g, off, rfl, hg⟩ : ∃ g off, ao = some ⟨g, off, none⟩ ∧ g < w1.heap.size := by
      rcases HRow.out.2 with ⟨_, e⟩ | ⟨g, off, cap, e, hg, _⟩
      · omega
      · injection e with e1 _ _
        exact ⟨g, off, e1, hg⟩
    obtain ⟨y0, y1, y2⟩ := RowR.at3 HRow.out 0 hl
    rw [Nat.zero_mul, Nat.add_zero] at y0
    rw [Nat.zero_mul, Nat.zero_add] at y1 y2
    clear hcan HC HPn HP Hl HRow
    generalize S.opn.getD 0 default = Y at *
    go_wp2_with fail
    refine post_as (fun W => Below w.heap.size w W ∧ W.heap[w.heap.size + 1]? = some (.cells #[.string (ba Y.1), .bool Y.2.1, .bool Y.2.2] 59 (0, 0))) ⟨((Hb.out.setCell (by simp) _).setCell (by simp) _).setCell (by simp) _, set3 K2.out⟩ (fun W ⟨q1, q2⟩ => ?_)
    obtain ⟨s0, s1, s2, _, _⟩ := blk3 q2
    refine bodyPost_ret (v := .tuple #[spkV Y, .bool true]) (by simp [results, Tryd.results106, go_sem, s0, s1, s2]; rfl) rfl ?_
    rw [E.out.1, E.out.2]
    exact ⟨rfl, q1⟩
set_option maxHeartbeats 4000000 in
set_option maxRecDepth 100000 in
theorem newest_any (w : World) (a : Option Addr) (c : Nat) (l : List (List UInt8)) (h : RowR w 1 (.slice a l.length c) l.length (wcells l)) (hl : l.length ≤ 100000) :
    Calls Tryd.prog 84 #[.slice a l.length c] w (Made w.heap.size 9 1 (last8 l).length (wcells (last8 l)) w) := by
  obtain ⟨i0, hi, iz0, iz1, iz2⟩ := info_parts info9
  have hc := h.cap
  have hown := World.ownsRow_lit (base := w.heap.size) (e := 9) (size := 1) w #[] 0 (Nat.le_refl _) (by unfold maxLen; omega) rfl
  have hb0 := below1 (B := w.heap.size) (w := w) (.cells #[] 9) (Nat.le_refl _)
  have HL : Hid ((last8 l).length = l.length - (l.length - 8)) := Lib.hid (by unfold last8; rw [List.length_drop])
  have HD : Hid (last8 l = l.drop (l.length - 8)) := Lib.hid rfl
  obtain ⟨m, hm⟩ : ∃ m : Nat, m = l.length - 8 := ⟨_, rfl⟩
  have hz : max ((l.length : Int) - 8) 0 = (m : Int) := by omega
  have hml : m ≤ l.length := by omega
  have hmz : (m : Int) ≤ (l.length : Int) := by omega
  rw [← hm] at HL HD
  have H := Lib.hid h
  have hm8 : l.length - m ≤ 8 := by omega
  by_cases hcm : c = m
  · have h0 : l.length = 0 := by omega
    have hl0 : l = [] := List.length_eq_zero_iff.1 h0
    subst hl0
    obtain rfl : m = 0 := by omega
    subst hcm
    clear h hm
    go_enter Tryd.func84, Tryd.ntmps84
    go_wp2_with (at_builtin; refine wpList_append_row rfl _ _ 42 rfl w.heap.size 9 i0 _ 1 16 Tryd.underlying42 hi iz0 iz1 iz2 rfl (by decide) _ _ _ rfl hown _ 0 [] rfl (RowR.alloc H.out _) (by simp) (by decide) (by omega) (by simp) ?_)
    intro v' w1 hown' hgrow _
    have hb := app_step hown hb0 (by simp) hgrow
    clear hown hgrow hi iz0 iz1 iz2
    go_wp2_with fail
    go_ret
    exact ⟨_, rfl, hown', hb⟩
  · rcases h.2 with ⟨e, e0⟩ | ⟨g, off, cap, e, hg, hcc, hx⟩
    · exfalso
      injection e with _ _ e3
      omega
    · injection e with e1 _ e3
      subst e1 e3
      have hr := h.from (k := m) hml
      rw [← HD.out] at hr
      have HR := Lib.hid hr
      clear h hm hr hx
      go_enter Tryd.func84, Tryd.ntmps84
      go_wp2_with (at_builtin; refine wpList_append_row rfl _ _ 42 rfl w.heap.size 9 i0 _ 1 16 Tryd.underlying42 hi iz0 iz1 iz2 rfl (by decide) _ _ _ rfl hown _ (l.length - m) (wcells (last8 l)) rfl (RowR.alloc HR.out _) (one_wcells _) (by unfold maxLen; omega) (by omega) (by simp) ?_)
      intro v' w1 hown' hgrow _
      have hb := app_step hown hb0 (by simp) hgrow
      clear hown hgrow hi iz0 iz1 iz2
      go_wp2_with fail
      go_ret
      exact ⟨_, rfl, by rw [HL.out]; simpa using hown', hb⟩
end Go.Proofs.YtheemefggkcfbaaDoor
namespace Go.Proofs.YtheemefggkcfbaaDoor
open Go Go.Lib Go.RowKit Go.Shelf
theorem set6 {w : World} {b : Nat} {p0 p1 p2 p3 p4 p5 x0 x1 x2 x3 x4 x5 : Value} {E : TypeId} (h : w.heap[b]? = some (.cells #[p0, p1, p2, p3, p4, p5] E (0, 0))) :
    ((((((w.setCell ⟨b, 0, none⟩ x0).setCell ⟨b, 1, none⟩ x1).setCell ⟨b, 2, none⟩ x2).setCell ⟨b, 3, none⟩ x3).setCell ⟨b, 4, none⟩ x4).setCell ⟨b, 5, none⟩ x5).heap[b]? = some (.cells #[x0, x1, x2, x3, x4, x5] E (0, 0)) :=
  blk_set (blk_set (blk_set (blk_set (blk_set (blk_set h)))))
theorem lit59 (w : World) : ∀ (W : World) (n : Nat), W.heap.size = n → w.heap.size ≤ n → (W.alloc (.cells #[] 59)).ownsRow w.heap.size 59 3 (.slice (some ⟨n, 0, none⟩) 0 0) 0 [] := by
  rintro W n rfl hn
  exact World.ownsRow_lit (base := w.heap.size) (e := 59) (size := 3) W #[] 0 hn (by unfold maxLen; omega) rfl
theorem lit9 (w : World) : ∀ (W : World) (n : Nat), W.heap.size = n → w.heap.size ≤ n → (W.alloc (.cells #[] 9)).ownsRow w.heap.size 9 1 (.slice (some ⟨n, 0, none⟩) 0 0) 0 [] := by
  rintro W n rfl hn
  exact World.ownsRow_lit (base := w.heap.size) (e := 9) (size := 1) W #[] 0 hn (by unfold maxLen; omega) rfl
/-- The zero of a reference speaker. -/
abbrev rz : Array Value := #[.int .i64 0, .slice none 0 0, .bool false, .int .i64 0, .slice none 0 0, .bool false]
theorem RfAt.mk' {w : World} {K : Nat → Prop} {S : Sp} {vo vt : Value} (h1 : RowR w 3 vo S.opn.length (scells S.opn)) (h2 : RowR w 1 vt S.tkn.length (wcells S.tkn)) (h3 : ∀ k, vo.ownBlock = some k → K k) (h4 : ∀ k, vt.ownBlock = some k → K k) : RfAt w K (rv S.hold vo S.mark S.free vt S.brk) S :=
  ⟨vo, vt, rfl, h1, h2, h3, h4⟩
theorem rfnew_at (w : World) (K : Nat → Prop) (n : Nat) : RfAt w K (rv n (.slice none 0 0) false 0 (.slice none 0 0) false) (Sp.new n) :=
  ⟨.slice none 0 0, .slice none 0 0, rfl, ⟨rfl, Or.inl ⟨rfl, rfl⟩⟩, ⟨rfl, Or.inl ⟨rfl, rfl⟩⟩, (fun k hk => by cases hk), (fun k hk => by cases hk)⟩
set_option maxHeartbeats 4000000 in
set_option maxRecDepth 100000 in
theorem rnew_any (w : World) (n : Nat) (hn : n ≤ 16) :
    Calls Tryd.prog 45 #[.int .i64 n] w fun e w' => e = .returned (.tuple #[rv n (.slice none 0 0) false 0 (.slice none 0 0) false, .int .i64 0]) ∧ Below w.heap.size w w' := by
  have h1 : ¬ (n : Int) < 0 := by omega
  have h2 : ¬ (16 : Int) < n := by omega
  have h3 : (decide ((n : Int) < 0)) = false := by simp
  go_enter Tryd.func45, Tryd.ntmps45
  go_wp2_with fail
  go_returns
  exact ⟨rfl, below1 _ (Nat.le_refl _)⟩
set_option maxHeartbeats 4000000 in
set_option maxRecDepth 100000 in
theorem rnew_bad (w : World) (n : Int) (hn : n < 0 ∨ 16 < n) :
    Calls Tryd.prog 45 #[.int .i64 n] w fun e w' => e = .returned (.tuple #[rv 0 (.slice none 0 0) false 0 (.slice none 0 0) false, .int .i64 2]) ∧ Below w.heap.size w w' := by
  have hd : decide (n < 0) = true ∨ (decide (n < 0) = false ∧ ¬ n < 0 ∧ 16 < n) := by
    rcases hn with h | h
    · exact Or.inl (by simpa using h)
    · exact Or.inr ⟨by simp; omega, by omega, h⟩
  rcases hd with hd | ⟨hd, h1, h2⟩
  all_goals
    go_enter Tryd.func45, Tryd.ntmps45
    go_wp2_with fail
    go_returns
    exact ⟨rfl, below1 _ (Nat.le_refl _)⟩
set_option maxHeartbeats 4000000 in
set_option maxRecDepth 100000 in
theorem rbreak_any (w : World) (K : Nat → Prop) (v : Value) (S : Sp) (h : RfAt w K v S) :
    Calls Tryd.prog 80 #[v] w fun e w' => ∃ v', e = .returned v' ∧ RfAt w' K v' { S with brk := true } ∧ Below w.heap.size w w' := by
  obtain ⟨vo, vt, rfl, h1, h2, h3, h4⟩ := h
  obtain ⟨ao, co, rfl⟩ := h1.len
  obtain ⟨at4, ct4, rfl⟩ := h2.len
  have H1 := Lib.hid (And.intro h1 (And.intro h2 (And.intro h3 h4)))
  clear h1 h2 h3 h4
  go_enter Tryd.func80, Tryd.ntmps80
  go_wp2_with fail
  go_returns
  have hb := ((below1 (B := w.heap.size) (w := w) (.cells (rc S.hold (.slice ao S.opn.length co) S.mark S.free (.slice at4 S.tkn.length ct4) true) 67) (Nat.le_refl _)).alloc (by simp) (.cells (rc S.hold (.slice ao S.opn.length co) S.mark S.free (.slice at4 S.tkn.length ct4) true) 67))
  exact ⟨_, rfl, ⟨_, _, rfl, H1.out.1.below hb, H1.out.2.1.below hb, H1.out.2.2.1, H1.out.2.2.2⟩, hb⟩
set_option maxHeartbeats 4000000 in
set_option maxRecDepth 100000 in
theorem rflush_any (w : World) (K : Nat → Prop) (v : Value) (S : Sp) (h : RfAt w K v S) :
    Calls Tryd.prog 82 #[v] w fun e w' => ∃ v', e = .returned v' ∧ RfAt w' K v' { S with free := S.opn.length } ∧ Below w.heap.size w w' := by
  obtain ⟨vo, vt, rfl, h1, h2, h3, h4⟩ := h
  obtain ⟨ao, co, rfl⟩ := h1.len
  obtain ⟨at4, ct4, rfl⟩ := h2.len
  have H1 := Lib.hid (And.intro h1 (And.intro h2 (And.intro h3 h4)))
  clear h1 h2 h3 h4
  go_enter Tryd.func82, Tryd.ntmps82
  go_wp2_with fail
  go_returns
  have hb := ((below1 (B := w.heap.size) (w := w) (.cells (rc S.hold (.slice ao S.opn.length co) S.mark S.opn.length (.slice at4 S.tkn.length ct4) S.brk) 67) (Nat.le_refl _)).alloc (by simp) (.cells (rc S.hold (.slice ao S.opn.length co) S.mark S.opn.length (.slice at4 S.tkn.length ct4) S.brk) 67))
  exact ⟨_, rfl, ⟨_, _, rfl, H1.out.1.below hb, H1.out.2.1.below hb, H1.out.2.2.1, H1.out.2.2.2⟩, hb⟩
set_option maxHeartbeats 4000000 in
set_option maxRecDepth 100000 in
theorem ropen_any (w : World) (K : Nat → Prop) (v : Value) (S : Sp) (h : RfAt w K v S) (hS : S.ok) :
    Calls Tryd.prog 47 #[v] w (Made w.heap.size 59 3 S.opn.length (scells S.opn) w) := by
  obtain ⟨i0, hi, iz0, iz1, iz2⟩ := info_parts info59
  obtain ⟨vo, vt, rfl, h1, h2, h3, h4⟩ := h
  obtain ⟨ao, co, rfl⟩ := h1.len
  obtain ⟨at4, ct4, rfl⟩ := h2.len
  have hlen := hS.len
  have HB : Hid (∀ o : Obj, Below w.heap.size w (w.alloc o)) := Lib.hid (fun o => below1 o (Nat.le_refl _))
  have HO := Lib.hid (lit59 w)
  have H1 := Lib.hid h1
  clear h1 h2 h3 h4
  go_enter Tryd.func47, Tryd.ntmps47
  go_wp2_with (at_builtin; refine wpList_append_row rfl _ _ 51 rfl w.heap.size 59 i0 _ 3 24 Tryd.underlying51 hi iz0 iz1 iz2 rfl (by decide) _ _ _ rfl (HO.out _ (w.heap.size + 1) (by simp) (by omega)) _ S.opn.length (scells S.opn) rfl ((H1.out.alloc _).alloc _) (one_scells _) (by unfold maxLen; omega) (by omega) (by simp; omega) ?_)
  intro v' w1 hown' hgrow _
  have hb := app_step (HO.out _ (w.heap.size + 1) (by simp) (by omega)) ((HB.out _).alloc (by simp) _) (by simp; omega) hgrow
  clear hgrow hi iz0 iz1 iz2
  go_wp2_with fail
  go_ret
  exact ⟨_, rfl, by simpa using hown', hb⟩
end Go.Proofs.YtheemefggkcfbaaDoor
namespace Go.Proofs.YtheemefggkcfbaaDoor
open Go Go.Lib Go.RowKit Go.Shelf
/-! ### the reference's Say -/
theorem ref_app {w W W1 w5 : World} {B B' n : Nat} {L : List (List UInt8)} {vL v : Value} {xs : List Value} {bx by' : Array Value} (hbb : Below W.heap.size W W1) (h4 : W1.ownsRow w.heap.size 59 3 v n xs) (h6 : W.heap[B]? = some (.cells bx 67 (0, 0))) (h7 : W.heap[B']? = some (.cells by' 67 (0, 0))) (h1 : Below w.heap.size w W)
    (h5 : W.ownsRow w.heap.size 9 1 vL L.length (wcells L)) (hgrow : W1.grownBy w5 v.ownBlock) :
    w5.heap[B]? = some (.cells bx 67 (0, 0)) ∧ w5.heap[B']? = some (.cells by' 67 (0, 0)) ∧ Below w.heap.size w w5 ∧ w5.ownsRow w.heap.size 9 1 vL L.length (wcells L) := by
  have hB := heap_lt h6
  have hB' := heap_lt h7
  have hz := hbb.size
  refine ⟨?_, ?_, app_step h4 (h1.trans (hbb.mono h1.size)) (by have := h1.size; omega) hgrow, (own_stays h5 hbb).kept hgrow (rows_apart (by decide) h4 (own_stays h5 hbb))⟩
  · rw [hgrow.block B (by omega) (fun e => blk_ne (by decide) (blk_stay h6 hbb) (own_base h4) e.symm)]
    exact blk_stay h6 hbb
  · rw [hgrow.block B' (by omega) (fun e => blk_ne (by decide) (blk_stay h7 hbb) (own_base h4) e.symm)]
    exact blk_stay h7 hbb
theorem row6_far {w : World} {b B size n : Nat} {E E' : TypeId} {v x0 x1 x2 x3 x4 x5 : Value} {cs : Array Value} {xs : List Value} (hE : E ≠ E') (h : w.heap[b]? = some (.cells cs E (0, 0))) (ho : w.ownsRow B E' size v n xs) :
    ((((((w.setCell ⟨b, 0, none⟩ x0).setCell ⟨b, 1, none⟩ x1).setCell ⟨b, 2, none⟩ x2).setCell ⟨b, 3, none⟩ x3).setCell ⟨b, 4, none⟩ x4).setCell ⟨b, 5, none⟩ x5).ownsRow B E' size v n xs := by
  have hn : v.ownBlock ≠ some b := by
    intro e
    rcases ho.2 with h2 | ⟨g', cap', cur, rfl, _, hg, _⟩
    · rw [h2.1] at e; cases e
    · injection e with e
      subst e
      rw [hg] at h
      injection h with h
      injection h with _ h _
      exact hE h.symm
  exact own_far (own_far (own_far (own_far (own_far (own_far ho hn) hn) hn) hn) hn) hn
theorem up_of {K : Nat → Prop} {w : World} {B e s n : Nat} {v : Value} {xs : List Value} {W : World} (h : W.ownsRow B e s v n xs) (hB : w.heap.size ≤ B) : ∀ k, v.ownBlock = some k → up K w k := fun k hk => Or.inr (by have := own_from h hk; omega)
theorem below_of {a b : World} (h : Below a.heap.size a b) : Below a.heap.size a b := h
theorem rb6 {w W : World} {B b : Nat} {x0 x1 x2 x3 x4 x5 : Value} (h : Below B w W) (hb : B ≤ b) :
    Below B w ((((((W.setCell ⟨b, 0, none⟩ x0).setCell ⟨b, 1, none⟩ x1).setCell ⟨b, 2, none⟩ x2).setCell ⟨b, 3, none⟩ x3).setCell ⟨b, 4, none⟩ x4).setCell ⟨b, 5, none⟩ x5) :=
  (((((h.setCell hb _).setCell hb _).setCell hb _).setCell hb _).setCell hb _).setCell hb _
set_option maxHeartbeats 8000000 in
set_option maxRecDepth 100000 in
theorem rsay_any (w : World) (K : Nat → Prop) (v : Value) (S : Sp) (t : ByteArray) (h : RfAt w K v S) (hS : S.ok) (ht : t.size ≤ 65536) (hE : Env w) :
    Calls Tryd.prog 79 #[v, .string t] w fun e w' => ∃ v', e = .returned (.tuple #[v', .int .i64 (S.say t.data.toList).2]) ∧ RfAt w' (up K w) v' (S.say t.data.toList).1 ∧ Below w.heap.size w w' := by
  obtain ⟨i0, hi, iz0, iz1, iz2⟩ := info_parts info59
  have c := fun W hE => rspk_any t W ht hE
  have Hbad := Lib.hid (@say_bad S t.data.toList)
  have Hfull := Lib.hid (@say_full S t.data.toList)
  have Hgood := Lib.hid (@say_good S t.data.toList)
  have hLl : (spkL t.data.toList).length ≤ 65537 := by
    unfold spkL
    split
    · have h := spW_len t.data.toList
      rw [← size_eq] at h; omega
    · simp
  generalize S.say t.data.toList = R at *
  generalize spkE t.data.toList = E at *
  generalize spkL t.data.toList = L at *
  obtain ⟨vo, vt, rfl, h1, h2, h3, h4⟩ := h
  obtain ⟨ao, co, rfl⟩ := h1.len
  obtain ⟨at4, ct4, rfl⟩ := h2.len
  have hlen := hS.len
  have H1 := Lib.hid (And.intro h1 (And.intro h2 (And.intro h3 h4)))
  clear h1 h2 h3 h4 hS
  have k1 := blk_stay (heap_alloc_new w (.cells (rc S.hold (.slice ao S.opn.length co) S.mark S.free (.slice at4 S.tkn.length ct4) S.brk) 67)) (below1 (.cells rz 67) (Nat.le_refl _))
  have k2 := heap_alloc_new (w.alloc (.cells (rc S.hold (.slice ao S.opn.length co) S.mark S.free (.slice at4 S.tkn.length ct4) S.brk) 67)) (.cells rz 67)
  have hsz : (w.alloc (.cells (rc S.hold (.slice ao S.opn.length co) S.mark S.free (.slice at4 S.tkn.length ct4) S.brk) 67)).heap.size = w.heap.size + 1 := by simp
  rw [hsz] at k2
  have hb0 : Below w.heap.size w ((w.alloc (.cells (rc S.hold (.slice ao S.opn.length co) S.mark S.free (.slice at4 S.tkn.length ct4) S.brk) 67)).alloc (.cells rz 67)) := (below1 _ (Nat.le_refl _)).alloc (by simp) _
  have K0 := Lib.hid (And.intro k1 (And.intro k2 hb0))
  clear k1 k2 hb0 hsz
  go_enter Tryd.func79, Tryd.ntmps79
  go_wp2_with fail
  refine (c _ (hE.below K0.out.2.2)).mono ?_
  rintro e w1 ⟨vL, rfl, ho, hb⟩
  obtain ⟨a, cp, rfl⟩ := own_len ho
  obtain ⟨k1, k2, hb0⟩ := K0.out
  have hz0 := hb0.size
  have HO := Lib.hid (own_low (B' := w.heap.size) ho hz0)
  have HB := Lib.hid (hb0.trans (hb.mono hz0))
  have k1 := blk_stay k1 (below_of hb)
  have k2 := blk_stay k2 (below_of hb)
  clear K0 hb0 hb ho hz0 c
  have KK := Lib.hid (And.intro k1 k2)
  obtain ⟨c0, c1, c2, c3, c4, c5, hf, hlt⟩ := blk_facts k1
  obtain ⟨r0, r1, r2, r3, r4, r5, rf, rlt⟩ := blk_facts k2
  clear k1 k2
  by_cases hE0 : E = 0
  · subst hE0
    by_cases hfull : 400 < S.opn.length + L.length
    · have HR := Lib.hid (Hfull.out rfl hfull)
      have hz : (400 : Int) < (S.opn.length : Int) + (L.length : Int) := by omega
      clear Hbad Hfull Hgood
      go_wp2_with fail
      refine post_as (fun W => Below w.heap.size w W ∧ W.heap[w.heap.size + 1]? = some (.cells (rc S.hold (.slice ao S.opn.length co) S.mark S.free (.slice at4 S.tkn.length ct4) S.brk) 67 (0, 0))) ⟨rb6 HB.out (by omega), set6 KK.out.2⟩ (fun W ⟨q1, q2⟩ => ?_)
      obtain ⟨s0, s1, s2, s3, s4, s5, _, _⟩ := blk_facts q2
      refine bodyPost_ret (v := .tuple #[rv S.hold (.slice ao S.opn.length co) S.mark S.free (.slice at4 S.tkn.length ct4) S.brk, .int .i64 9]) (by simp [results, Tryd.results79, go_sem, s0, s1, s2, s3, s4, s5]) rfl ?_
      rw [HR.out]
      exact ⟨_, rfl, ⟨_, _, rfl, H1.out.1.below q1, H1.out.2.1.below q1, fun k hk => Or.inl (H1.out.2.2.1 k hk), fun k hk => Or.inl (H1.out.2.2.2 k hk)⟩, q1⟩
    · have HR := Lib.hid (Hgood.out rfl hfull)
      have hz : ¬ (400 : Int) < (S.opn.length : Int) + (L.length : Int) := by omega
      clear Hbad Hfull Hgood
      have HT : Hid (R.1.opn = S.opn ++ newGo S.brk false 0 L ∧ R.1 = { S with opn := R.1.opn, brk := false } ∧ R.2 = 0) := Lib.hid (by rw [HR.out]; exact ⟨rfl, rfl, rfl⟩)
      go_wp2_with (at_builtin; refine wpList_append_row rfl _ _ 51 rfl w.heap.size 59 i0 _ 3 24 Tryd.underlying51 hi iz0 iz1 iz2 rfl (by decide) _ _ _ rfl (lit59 w w1 _ rfl (by have := HB.out.size; omega)) _ S.opn.length (scells S.opn) rfl ((H1.out.1.below HB.out).alloc _) (one_scells _) (by unfold maxLen; omega) (by omega) (by have := HB.out.size; simp; omega) ?_)
      intro v' w2 hown hgrow _
      obtain ⟨a7, c7, rfl⟩ := own_len hown
      have Q := Lib.hid (ref_app (below1 _ (Nat.le_refl _)) (lit59 w w1 _ rfl (by have := HB.out.size; omega)) KK.out.1 KK.out.2 HB.out HO.out hgrow)
      have QO : Hid (w2.ownsRow w.heap.size 59 3 (.slice a7 S.opn.length c7) S.opn.length (scells S.opn)) := Lib.hid (by simpa using hown)
      clear hown hgrow KK HO HB c0 c1 c2 c3 c4 c5 hf hlt r0 r1 r2 r3 r4 r5 rf rlt
      have k1 := Q.out.1
      obtain ⟨c0, c1, c2, c3, c4, c5, hf, hlt⟩ := blk_facts k1
      clear k1
      go_wp2_with fail
      clear c0 c1 c2 c3 c4 c5 hf hlt
      go_loopw [34] (fun iv wx => ∃ (i : Nat) (d : List Spk) (u : Value), iv = .int .i64 i ∧ i ≤ L.length ∧ d.length ≤ S.opn.length + i ∧ wx.ownsRow w.heap.size 59 3 u d.length (scells d) ∧ wx.heap[w.heap.size]? = some (.cells (rc S.hold u S.mark S.free (.slice at4 S.tkn.length ct4) S.brk) 67 (0, 0)) ∧ wx.heap[w.heap.size + 1]? = some (.cells rz 67 (0, 0)) ∧ Below w.heap.size w wx ∧ wx.ownsRow w.heap.size 9 1 (.slice a L.length cp) L.length (wcells L) ∧ Hid (d ++ newGo S.brk false i (L.drop i) = R.1.opn)) (fun v _ => L.length - (intOf v).toNat)
      case atStart => exact ⟨0, S.opn, _, rfl, Nat.zero_le _, by omega, row_far (by decide) Q.out.1 QO.out, blk_set Q.out.1, (heap_setCell_other _ _ _ _ (by simp)).trans Q.out.2.1, Q.out.2.2.1.setCell (Nat.le_refl _) _, row_far (by decide) Q.out.1 Q.out.2.2.2, Lib.hid (by rw [List.drop_zero]; exact HT.out.1.symm)⟩
      case round =>
        clear Q QO
        obtain ⟨i, d, u, rfl, hil, hd, q1, q2, q3, q4, q5, HD⟩ := hrel
        obtain ⟨a8, c8, rfl⟩ := own_len q1
        obtain ⟨c0, c1, c2, c3, c4, c5, hf, hlt⟩ := blk_facts q2
        by_cases hlt' : i < L.length
        · have hz : (i : Int) < (L.length : Int) := by omega
          obtain ⟨g, rfl, hg, hc⟩ := own_at q5 i hlt'
          rw [strV_ba] at hc
          have HD2 := Lib.hid (HD.out.symm.trans (by rw [newGo_drop S.brk false L i hlt']))
          have Q := Lib.hid (And.intro q1 (And.intro q2 (And.intro q3 (And.intro q4 q5))))
          have HZZ : Hid (∀ o : Obj, w.heap.size ≤ (wr.alloc o).heap.size) := Lib.hid (fun o => by have := q4.size; simp; omega)
          clear q1 q2 q3 q4 q5 HD
          generalize hY : L.getD i [] = Y at *
          clear hY
          by_cases hi0 : i = 0
          · subst hi0
            have hiz : ((0 : Int) == 0) = true := rfl
            go_wp2_with (at_builtin; refine wpList_append_lies _ rfl _ _ 51 rfl w.heap.size 59 i0 _ 3 24 Tryd.underlying51 hi iz0 iz1 iz2 rfl (by decide) (.slice a8 d.length c8) d.length _ rfl (Q.out.1.alloc _) ⟨wr.heap.size, 0, none⟩ 1 1 [.string (ba Y), .bool S.brk, .bool false] rfl rfl (World.news_of_block (cs := #[.string (ba Y), .bool S.brk, .bool false]) (t := 59) (fr := (0, 0)) (heap_alloc_new wr _)) (by simp [Value.oneCell']) (by decide) (by unfold maxLen; omega) (by omega) (HZZ.out _) (wr.heap.size + 1) (by simp) ?_)
            intro gg cap w5 hown hgrow hat hlt5
            have hq := open_stepB (d' := d ++ [(Y, S.brk, false)]) (x := (Y, S.brk, false)) hown rfl rfl
            have hdl' : (d ++ [(Y, S.brk, false)]).length = d.length + 1 := by rw [List.length_append]; rfl
            have HQ := Lib.hid (ref_app (below1 _ (Nat.le_refl _)) (Q.out.1.alloc _) Q.out.2.1 Q.out.2.2.1 Q.out.2.2.2.1 Q.out.2.2.2.2 hgrow)
            have HQ2 := Lib.hid hq
            have HD3 := Lib.hid hdl'
            clear hown hgrow hat hq hdl' c0 c1 c2 c3 c4 c5 hf hlt
            have k1 := HQ.out.1
            obtain ⟨c0, c1, c2, c3, c4, c5, hf, hlt⟩ := blk_facts k1
            clear k1
            go_wp2_with fail
            go_roundw
            case rel => exact ⟨0 + 1, d ++ [(Y, S.brk, false)], _, by go_num, by omega, by rw [HD3.out]; omega, row_far (by decide) HQ.out.1 (by have := HQ2.out; rw [HD3.out] at this ⊢; exact this), blk_set HQ.out.1, (heap_setCell_other _ _ _ _ (by simp)).trans HQ.out.2.1, HQ.out.2.2.1.setCell (Nat.le_refl _) _, row_far (by decide) HQ.out.1 HQ.out.2.2.2, Lib.hid (by rw [List.append_assoc]; exact HD2.out.symm)⟩
            case measure => simp [intOf]; omega
          · have hiz : ((i : Int) == 0) = false := by simp; omega
            have hin : (i == 0) = false := by simpa using hi0
            rw [hin, Bool.false_and] at HD2
            clear hin
            go_wp2_with (at_builtin; refine wpList_append_lies _ rfl _ _ 51 rfl w.heap.size 59 i0 _ 3 24 Tryd.underlying51 hi iz0 iz1 iz2 rfl (by decide) (.slice a8 d.length c8) d.length _ rfl (Q.out.1.alloc _) ⟨wr.heap.size, 0, none⟩ 1 1 [.string (ba Y), .bool false, .bool false] rfl rfl (World.news_of_block (cs := #[.string (ba Y), .bool false, .bool false]) (t := 59) (fr := (0, 0)) (heap_alloc_new wr _)) (by simp [Value.oneCell']) (by decide) (by unfold maxLen; omega) (by omega) (HZZ.out _) (wr.heap.size + 1) (by simp) ?_)
            intro gg cap w5 hown hgrow hat hlt5
            have hq := open_stepB (d' := d ++ [(Y, false, false)]) (x := (Y, false, false)) hown rfl rfl
            have hdl' : (d ++ [(Y, false, false)]).length = d.length + 1 := by rw [List.length_append]; rfl
            have HQ := Lib.hid (ref_app (below1 _ (Nat.le_refl _)) (Q.out.1.alloc _) Q.out.2.1 Q.out.2.2.1 Q.out.2.2.2.1 Q.out.2.2.2.2 hgrow)
            have HQ2 := Lib.hid hq
            have HD3 := Lib.hid hdl'
            clear hown hgrow hat hq hdl' c0 c1 c2 c3 c4 c5 hf hlt
            have k1 := HQ.out.1
            obtain ⟨c0, c1, c2, c3, c4, c5, hf, hlt⟩ := blk_facts k1
            clear k1
            go_wp2_with fail
            go_roundw
            case rel => exact ⟨i + 1, d ++ [(Y, false, false)], _, by go_num, by omega, by rw [HD3.out]; omega, row_far (by decide) HQ.out.1 (by have := HQ2.out; rw [HD3.out] at this ⊢; exact this), blk_set HQ.out.1, (heap_setCell_other _ _ _ _ (by simp)).trans HQ.out.2.1, HQ.out.2.2.1.setCell (Nat.le_refl _) _, row_far (by decide) HQ.out.1 HQ.out.2.2.2, Lib.hid (by rw [List.append_assoc]; exact HD2.out.symm)⟩
            case measure => simp [intOf]; omega
        · obtain rfl : i = L.length := by omega
          have hz : ¬ (L.length : Int) < (L.length : Int) := by omega
          have hD2 := HD.out
          rw [newGo_end, List.append_nil] at hD2
          have HD2 := Lib.hid hD2
          clear hD2
          obtain ⟨r0, r1, r2, r3, r4, r5, rf, rlt⟩ := blk_facts q3
          have Q := Lib.hid (And.intro q1 (And.intro q2 (And.intro q3 q4)))
          clear q1 q2 q3 q4 q5 HD
          go_wp2_with fail
          refine post_as (fun W => Below w.heap.size w W ∧ W.heap[w.heap.size + 1]? = some (.cells (rc S.hold (.slice a8 d.length c8) S.mark S.free (.slice at4 S.tkn.length ct4) false) 67 (0, 0)) ∧ W.ownsRow w.heap.size 59 3 (.slice a8 d.length c8) d.length (scells d))
            ⟨rb6 (Q.out.2.2.2.setCell (Nat.le_refl _) _) (by omega), set6 ((heap_setCell_other _ ⟨w.heap.size, 5, none⟩ _ _ (by simp)).trans Q.out.2.2.1), row6_far (by decide) ((heap_setCell_other _ ⟨w.heap.size, 5, none⟩ _ _ (by simp)).trans Q.out.2.2.1) (row_far (by decide) Q.out.2.1 Q.out.1)⟩ (fun W ⟨p1, p2, p3⟩ => ?_)
          obtain ⟨s0, s1, s2, s3, s4, s5, _, _⟩ := blk_facts p2
          refine bodyPost_ret (v := .tuple #[rv S.hold (.slice a8 d.length c8) S.mark S.free (.slice at4 S.tkn.length ct4) false, .int .i64 0]) (by simp [results, Tryd.results79, go_sem, s0, s1, s2, s3, s4, s5]) rfl ?_
          have e1 : R.1 = { S with opn := d, brk := false } := HT.out.2.1.trans (by rw [HD2.out])
          rw [e1, HT.out.2.2]
          exact ⟨_, rfl, ⟨_, _, rfl, RowR.of_own p3, H1.out.2.1.below p1, up_of p3 (Nat.le_refl _), fun k hk => Or.inl (H1.out.2.2.2 k hk)⟩, p1⟩
  · have HR := Lib.hid (Hbad.out hE0)
    have hEz : (E == 0) = false := by simpa using hE0
    clear Hbad Hfull Hgood
    go_wp2_with fail
    refine post_as (fun W => Below w.heap.size w W ∧ W.heap[w.heap.size + 1]? = some (.cells (rc S.hold (.slice ao S.opn.length co) S.mark S.free (.slice at4 S.tkn.length ct4) S.brk) 67 (0, 0))) ⟨rb6 HB.out (by omega), set6 KK.out.2⟩ (fun W ⟨q1, q2⟩ => ?_)
    obtain ⟨s0, s1, s2, s3, s4, s5, _, _⟩ := blk_facts q2
    refine bodyPost_ret (v := .tuple #[rv S.hold (.slice ao S.opn.length co) S.mark S.free (.slice at4 S.tkn.length ct4) S.brk, .int .i64 E]) (by simp [results, Tryd.results79, go_sem, s0, s1, s2, s3, s4, s5]) rfl ?_
    rw [HR.out]
    exact ⟨_, rfl, ⟨_, _, rfl, H1.out.1.below q1, H1.out.2.1.below q1, fun k hk => Or.inl (H1.out.2.2.1 k hk), fun k hk => Or.inl (H1.out.2.2.2 k hk)⟩, q1⟩
end Go.Proofs.YtheemefggkcfbaaDoor
namespace Go.Proofs.YtheemefggkcfbaaDoor
open Go Go.Lib Go.RowKit Go.Shelf
/-! ### the laws' own comparisons, at equal lists -/
set_option maxHeartbeats 4000000 in
set_option maxRecDepth 100000 in
theorem texts_same (w : World) (v1 v2 : Value) (l : List (List UInt8)) (h1 : RowR w 1 v1 l.length (wcells l)) (h2 : RowR w 1 v2 l.length (wcells l)) (hl : l.length ≤ 100000) :
    Calls Tryd.prog 36 #[v1, v2] w fun e w' => e = .returned (.bool true) ∧ Below w.heap.size w w' := by
  obtain ⟨a1, c1, rfl⟩ := h1.len
  obtain ⟨a2, c2, rfl⟩ := h2.len
  have H1 := Lib.hid h1
  have H2 := Lib.hid h2
  clear h1 h2
  go_enter Tryd.func36, Tryd.ntmps36
  go_wp2_with fail
  go_loopw [13] (fun iv wx => ∃ i : Nat, iv = .int .i64 i ∧ i ≤ l.length ∧ Below w.heap.size w wx) (fun v _ => l.length - (intOf v).toNat)
  case atStart => exact ⟨0, rfl, Nat.zero_le _, Below.refl _ _⟩
  case round =>
    obtain ⟨i, rfl, hil, hb⟩ := hrel
    by_cases hlt : i < l.length
    · have hz : (i : Int) < (l.length : Int) := by omega
      have R1 := H1.out.below hb
      have R2 := H2.out.below hb
      rcases R1.2 with ⟨_, e⟩ | ⟨g, off, cap, e, hg, hc, _⟩
      · omega
      rcases R2.2 with ⟨_, e'⟩ | ⟨g', off', cap', e', hg', hc', _⟩
      · omega
      obtain ⟨rfl, rfl⟩ : a1 = some ⟨g, off, none⟩ ∧ c1 = cap := by injection e with e1 _ e3; exact ⟨e1, e3⟩
      obtain ⟨rfl, rfl⟩ : a2 = some ⟨g', off', none⟩ ∧ c2 = cap' := by injection e' with e1 _ e3; exact ⟨e1, e3⟩
      have y1 := RowR.at1 R1 i hlt
      have y2 := RowR.at1 R2 i hlt
      generalize l.getD i [] = Y at *
      clear R1 R2 e e'
      have HB := Lib.hid hb
      clear hb
      go_wp2_with fail
      go_quiet (fail)
      go_wp2_with fail
      go_roundw
      case rel => exact ⟨i + 1, by go_num, by omega, below_dn HB.out _⟩
      case measure => simp [intOf]; omega
    · obtain rfl : i = l.length := by omega
      have hz : ¬ (l.length : Int) < (l.length : Int) := by omega
      go_wp2_with fail
      go_ret
      exact ⟨rfl, hb⟩
set_option maxHeartbeats 4000000 in
set_option maxRecDepth 100000 in
theorem words_same (w : World) (v1 v2 : Value) (l : List Spk) (h1 : RowR w 3 v1 l.length (scells l)) (h2 : RowR w 3 v2 l.length (scells l)) (hl : l.length ≤ 100000) :
    Calls Tryd.prog 44 #[v1, v2] w fun e w' => e = .returned (.bool true) ∧ Below w.heap.size w w' := by
  obtain ⟨a1, c1, rfl⟩ := h1.len
  obtain ⟨a2, c2, rfl⟩ := h2.len
  have H1 := Lib.hid h1
  have H2 := Lib.hid h2
  clear h1 h2
  go_enter Tryd.func44, Tryd.ntmps44
  go_wp2_with fail
  go_loopw [13] (fun iv wx => ∃ i : Nat, iv = .int .i64 i ∧ i ≤ l.length ∧ Below w.heap.size w wx) (fun v _ => l.length - (intOf v).toNat)
  case atStart => exact ⟨0, rfl, Nat.zero_le _, Below.refl _ _⟩
  case round =>
    obtain ⟨i, rfl, hil, hb⟩ := hrel
    by_cases hlt : i < l.length
    · have hz : (i : Int) < (l.length : Int) := by omega
      have R1 := H1.out.below hb
      have R2 := H2.out.below hb
      rcases R1.2 with ⟨_, e⟩ | ⟨g, off, cap, e, hg, hc, _⟩
      · omega
      rcases R2.2 with ⟨_, e'⟩ | ⟨g', off', cap', e', hg', hc', _⟩
      · omega
      obtain ⟨rfl, rfl⟩ : a1 = some ⟨g, off, none⟩ ∧ c1 = cap := by injection e with e1 _ e3; exact ⟨e1, e3⟩
      obtain ⟨rfl, rfl⟩ : a2 = some ⟨g', off', none⟩ ∧ c2 = cap' := by injection e' with e1 _ e3; exact ⟨e1, e3⟩
      obtain ⟨y0, y1, y2⟩ := RowR.at3 R1 i hlt
      obtain ⟨z0, z1, z2⟩ := RowR.at3 R2 i hlt
      rw [← Nat.add_assoc] at y1 y2 z1 z2
      generalize l.getD i default = Y at *
      clear R1 R2 e e'
      have HB := Lib.hid hb
      clear hb
      go_wp2_with fail
      go_quiet (fail)
      go_wp2_with fail
      go_roundw
      case rel => exact ⟨i + 1, by go_num, by omega, below_dn HB.out _⟩
      case measure => simp [intOf]; omega
    · obtain rfl : i = l.length := by omega
      have hz : ¬ (l.length : Int) < (l.length : Int) := by omega
      go_wp2_with fail
      go_ret
      exact ⟨rfl, hb⟩
end Go.Proofs.YtheemefggkcfbaaDoor
namespace Go.Proofs.YtheemefggkcfbaaDoor
open Go Go.Lib Go.RowKit Go.Shelf
/-! ### a speaker that the law owns, and what is known not to be the speaker's -/
/-- A speaker all of whose blocks were made since w0; the blocks in F are not its own. -/
def Ow (w0 w : World) (b : Nat) (S : Sp) (F : Nat → Prop) : Prop :=
  ∃ O, SpAt w O b S ∧ (∀ k, O k → w0.heap.size ≤ k ∧ k < w.heap.size ∧ ¬ F k) ∧ (∀ k, F k → k < w.heap.size) ∧ Below w0.heap.size w0 w
/-- What lies in F stands. -/
structure Keep (F : Nat → Prop) (w w' : World) : Prop where
  size : w.heap.size ≤ w'.heap.size
  block : ∀ k, k < w.heap.size → F k → w'.heap[k]? = w.heap[k]?
/-- F, and what was made meanwhile. -/
def also (F : Nat → Prop) (w w' : World) : Nat → Prop := fun k => F k ∨ (w.heap.size ≤ k ∧ k < w'.heap.size)
section
variable {w0 w w' w'' W W' : World} {b n : Nat} {S S' : Sp} {F G : Nat → Prop} {v u : Value} {xs : List Value} {B e s : Nat}
theorem Ow.dn (h : Ow w0 w b S F) : Below w0.heap.size w0 w := h.choose_spec.2.2.2
theorem Ow.lt (h : Ow w0 w b S F) {k : Nat} (hk : F k) : k < w.heap.size := h.choose_spec.2.2.1 k hk
theorem Ow.base (h : Ow w0 w b S F) : w0.heap.size ≤ b ∧ b < w.heap.size := by
  obtain ⟨O, hS, hO, _, _⟩ := h
  exact ⟨(hO b hS.own).1, (hO b hS.own).2.1⟩
theorem Ow.weaken (h : Ow w0 w b S F) (hG : ∀ k, G k → F k) : Ow w0 w b S G := by
  obtain ⟨O, hS, hO, hF, hb⟩ := h
  exact ⟨O, hS, fun k hk => ⟨(hO k hk).1, (hO k hk).2.1, fun g => (hO k hk).2.2 (hG k g)⟩, fun k hk => hF k (hG k hk), hb⟩
/-- Behind what changes no old block: all that is new is not the speaker's. -/
theorem Ow.below (h : Ow w0 w b S F) (hb : Below w.heap.size w w') : Ow w0 w' b S (also F w w') := by
  obtain ⟨O, hS, hO, hF, hb0⟩ := h
  have hz := hb.size
  refine ⟨O, hS.below hb, fun k hk => ⟨(hO k hk).1, Nat.lt_of_lt_of_le (hO k hk).2.1 hz, ?_⟩, ?_, hb0.trans (hb.mono hb0.size)⟩
  · rintro (g | g)
    · exact (hO k hk).2.2 g
    · have := (hO k hk).2.1; omega
  · rintro k (g | g)
    · have := hF k g; omega
    · exact g.2
/-- Behind a step of the speaker's own. -/
theorem Ow.step {O : Nat → Prop} (hO : ∀ k, O k → w0.heap.size ≤ k ∧ k < w.heap.size ∧ ¬ F k) (hF : ∀ k, F k → k < w.heap.size) (hb0 : Below w0.heap.size w0 w) (hS : SpAt w' (grow O w w') b S') (hW : Within O w w') : Ow w0 w' b S' F ∧ Keep F w w' := by
  have hz := hW.size
  have hz0 := hb0.size
  refine ⟨⟨fun k => grow O w w' k ∧ k < w'.heap.size, hS.tight, ?_, fun k hk => by have := hF k hk; omega, hW.below hb0 hz0 (fun k hk => (hO k hk).1)⟩, ⟨hz, fun k hk g => hW.block k hk (fun o => (hO k o).2.2 g)⟩⟩
  rintro k ⟨g | g, h2⟩
  · exact ⟨(hO k g).1, h2, (hO k g).2.2⟩
  · exact ⟨by omega, h2, fun f => by have := hF k f; omega⟩
theorem Keep.of_below (hb : Below w.heap.size w w') : Keep F w w' := ⟨hb.size, fun k hk _ => hb.block k hk⟩
theorem Keep.refl : Keep F w w := ⟨Nat.le_refl _, fun _ _ _ => rfl⟩
theorem Keep.trans (h : Keep F w w') (k : Keep F w' w'') : Keep F w w'' := ⟨Nat.le_trans h.size k.size, fun j hj f => (k.block j (Nat.lt_of_lt_of_le hj h.size) f).trans (h.block j hj f)⟩
theorem Keep.weaken (h : Keep F w w') (hG : ∀ k, G k → F k) : Keep G w w' := ⟨h.size, fun k hk g => h.block k hk (hG k g)⟩
theorem Keep.obj {k : Nat} {o : Obj} (h : Keep F w w') (hk : w.heap[k]? = some o) (hf : F k) : w'.heap[k]? = some o := by rw [h.block k (heap_lt hk) hf]; exact hk
theorem Keep.own (h : Keep F w w') (ho : w.ownsRow B e s v n xs) (hv : ∀ k, v.ownBlock = some k → F k) : w'.ownsRow B e s v n xs := by
  refine ⟨ho.1, ?_⟩
  rcases ho.2 with h2 | ⟨g, cap, cur, rfl, hb, hg, rest⟩
  · exact Or.inl h2
  · exact Or.inr ⟨g, cap, cur, rfl, hb, h.obj hg (hv g rfl), rest⟩
theorem Keep.row (h : Keep F w w') (hr : RowR w s v n xs) (hv : ∀ k, v.ownBlock = some k → F k) : RowR w' s v n xs :=
  hr.kept h.size (fun k hk => h.block k (hr.lt hk) (hv k hk))
theorem Keep.rf (h : Keep F w w') (hr : RfAt w F v S) : RfAt w' F v S := by
  obtain ⟨vo, vt, e1, r1, r2, o1, o2⟩ := hr
  exact ⟨vo, vt, e1, h.row r1 o1, h.row r2 o2, o1, o2⟩
/-- Behind an append to a row that is not the speaker's. -/
theorem Ow.grown {r : Option Nat} (h : Ow w0 w b S F) (hg : w.grownBy w' r) (hr : ∀ k, r = some k → F k ∧ w0.heap.size ≤ k) : Ow w0 w' b S (also F w w') := by
  obtain ⟨O, hS, hO, hF, hb0⟩ := h
  have hz := hg.size
  have hkeep : ∀ k, O k → w'.heap[k]? = w.heap[k]? := fun k hk => hg.block k (hO k hk).2.1 (fun e => (hO k hk).2.2 (hr k e.symm).1)
  refine ⟨O, ?_, fun k hk => ⟨(hO k hk).1, Nat.lt_of_lt_of_le (hO k hk).2.1 hz, ?_⟩, ?_, hb0.grown hg hb0.size (fun k e => (hr k e).2)⟩
  · obtain ⟨vo, vt, h1, h2, h3, h4, h5, h6⟩ := hS
    have row : ∀ {E s n : Nat} {v : Value} {xs : List Value}, w.ownsRow 0 E s v n xs → (∀ k, v.ownBlock = some k → O k) → w'.ownsRow 0 E s v n xs := by
      intro E s n v xs ho hv
      refine ⟨ho.1, ?_⟩
      rcases ho.2 with h2 | ⟨g, cap, cur, rfl, hb, hgg, rest⟩
      · exact Or.inl h2
      · exact Or.inr ⟨g, cap, cur, rfl, hb, by rw [hkeep g (hv g rfl)]; exact hgg, rest⟩
    exact ⟨vo, vt, by rw [hkeep b h4]; exact h1, row h2 h5, row h3 h6, h4, h5, h6⟩
  · rintro (g | g)
    · exact (hO k hk).2.2 g
    · have := (hO k hk).2.1; omega
  · rintro k (g | g)
    · have := hF k g; omega
    · exact g.2
/-- Behind a store into a block that is not the speaker's. -/
theorem Ow.far {k o : Nat} (h : Ow w0 w b S F) (hk : F k) (h0 : w0.heap.size ≤ k) : Ow w0 (w.setCell ⟨k, o, none⟩ u) b S F := by
  obtain ⟨O, hS, hO, hF, hb0⟩ := h
  exact ⟨O, hS.far (fun e => (hO k e).2.2 hk), fun j hj => by simpa using hO j hj, fun j hj => by simpa using hF j hj, hb0.setCell (p := ⟨k, o, none⟩) h0 u⟩
theorem Ow.drew (h : Ow w0 w b S F) : Ow w0 w.drew b S F := by
  obtain ⟨O, hS, hO, hF, hb0⟩ := h
  exact ⟨O, hS, hO, hF, hb0.drew⟩
end
section
variable {w0 w : World} {b : Nat} {S : Sp} {F : Nat → Prop}
theorem new_ow (n : Nat) (hn : n ≤ 16) (hb : Below w0.heap.size w0 w) :
    Calls Tryd.prog 37 #[.int .i64 n] w fun e w' => ∃ b, e = .returned (.tuple #[ptr b, .int .i64 0]) ∧ Ow w0 w' b (Sp.new n) (fun k => k < w.heap.size) ∧ Below w.heap.size w w' := by
  refine (new_any w n hn).mono ?_
  rintro e w' ⟨b, rfl, hS, hb'⟩
  exact ⟨b, rfl, ⟨_, hS, fun k hk => ⟨by have := hb.size; have := hk.1; omega, hk.2, fun g => by have := hk.1; omega⟩, fun k hk => by have := hb'.size; omega, hb.trans (hb'.mono hb.size)⟩, hb'⟩
theorem say_ow (h : Ow w0 w b S F) (hS : S.ok) (t : ByteArray) (ht : t.size ≤ 65536) (hE : Env w0) :
    Calls Tryd.prog 38 #[ptr b, .string t] w fun e w' => e = .returned (.int .i64 (S.say t.data.toList).2) ∧ Ow w0 w' b (S.say t.data.toList).1 F ∧ Keep F w w' := by
  have hE' := hE.below h.dn
  obtain ⟨O, hA, hO, hF, hb⟩ := h
  refine (say_any w O b S t hA hS ht hE').mono ?_
  rintro e w' ⟨rfl, hA', hW⟩
  exact ⟨rfl, Ow.step hO hF hb hA' hW⟩
theorem take_ow (h : Ow w0 w b S F) (hS : S.ok) :
    Calls Tryd.prog 41 #[ptr b] w fun e w' => e = .returned (.tuple #[spkV S.peek, .bool S.can]) ∧ Ow w0 w' b S.take F ∧ Keep F w w' := by
  obtain ⟨O, hA, hO, hF, hb⟩ := h
  refine (take_any w O b S hA hS).mono ?_
  rintro e w' ⟨rfl, hA', hW⟩
  exact ⟨rfl, Ow.step hO hF hb hA' hW⟩
theorem fix_ow (h : Ow w0 w b S F) (hS : S.ok) (n : Int) (t : ByteArray) (ht : t.size ≤ 65536) (hE : Env w0) :
    Calls Tryd.prog 42 #[ptr b, .int .i64 n, .string t] w fun e w' => e = .returned (.int .i64 (S.fix n t.data.toList).2) ∧ Ow w0 w' b (S.fix n t.data.toList).1 F ∧ Keep F w w' := by
  by_cases hn : n < 1 ∨ 8 < n
  · refine (fix_range_any w b n t hn).mono ?_
    rintro e w' ⟨rfl, rfl⟩
    rw [fix_range hn]
    exact ⟨rfl, h, Keep.refl⟩
  · obtain ⟨k, rfl⟩ : ∃ k : Nat, n = k := ⟨n.toNat, by omega⟩
    have hE' := hE.below h.dn
    obtain ⟨O, hA, hO, hF, hb⟩ := h
    refine (fix_any w O b S k t hA hS (by omega) (by omega) ht hE').mono ?_
    rintro e w' ⟨rfl, hA', hW⟩
    exact ⟨rfl, Ow.step hO hF hb hA' hW⟩
theorem break_ow (h : Ow w0 w b S F) :
    Calls Tryd.prog 52 #[ptr b] w fun e w' => e = .returned (.int .i64 0) ∧ Ow w0 w' b { S with brk := true } F ∧ Keep F w w' := by
  obtain ⟨O, hA, hO, hF, hb⟩ := h
  refine (break_any w O b S hA).mono ?_
  rintro e w' ⟨rfl, hA', hW, _⟩
  exact ⟨rfl, Ow.step hO hF hb (hA'.weaken (fun k hk => Or.inl hk)) hW⟩
theorem flush_ow (h : Ow w0 w b S F) :
    Calls Tryd.prog 53 #[ptr b] w fun e w' => e = .returned (.int .i64 0) ∧ Ow w0 w' b { S with free := S.opn.length } F ∧ Keep F w w' := by
  obtain ⟨O, hA, hO, hF, hb⟩ := h
  refine (flush_any w O b S hA).mono ?_
  rintro e w' ⟨rfl, hA', hW, _⟩
  exact ⟨rfl, Ow.step hO hF hb (hA'.weaken (fun k hk => Or.inl hk)) hW⟩
theorem peek_ow (h : Ow w0 w b S F) (hS : S.ok) :
    Calls Tryd.prog 51 #[ptr b] w fun e w' => e = .returned (.tuple #[spkV S.peek, .bool S.can]) ∧ Ow w0 w' b S (also F w w') ∧ Below w.heap.size w w' := by
  have h' := h
  obtain ⟨O, hA, hO, hF, hb⟩ := h'
  refine (peek_any w O b S hA hS).mono ?_
  rintro e w' ⟨rfl, hb'⟩
  exact ⟨rfl, h.below hb', hb'⟩
/-- Open: a row of its own. -/
theorem open_ow (h : Ow w0 w b S F) (hS : S.ok) :
    Calls Tryd.prog 39 #[ptr b] w fun e w' => ∃ v, e = .returned v ∧ w'.ownsRow w.heap.size 59 3 v S.opn.length (scells S.opn) ∧ Ow w0 w' b S (also F w w') ∧ Below w.heap.size w w' := by
  have h' := h
  obtain ⟨O, hA, hO, hF, hb⟩ := h'
  refine (open_any w O b S hA hS).mono ?_
  rintro e w' ⟨v, rfl, ho, hb'⟩
  exact ⟨v, rfl, ho, h.below hb', hb'⟩
theorem said_ow (h : Ow w0 w b S F) (hS : S.ok) :
    Calls Tryd.prog 43 #[ptr b] w fun e w' => ∃ v, e = .returned v ∧ RowR w' 1 v S.said.length (wcells S.said) ∧ Ow w0 w' b S (also F w w') ∧ Below w.heap.size w w' := by
  have h' := h
  obtain ⟨O, hA, hO, hF, hb⟩ := h'
  refine (said_any w O b S hA hS).mono ?_
  rintro e w' ⟨v, rfl, ho, hb'⟩
  exact ⟨v, rfl, ho, h.below hb', hb'⟩
end
end Go.Proofs.YtheemefggkcfbaaDoor
namespace Go.Proofs.YtheemefggkcfbaaDoor
open Go Go.Lib Go.RowKit Go.Shelf
/-! ### the chapter's first example -/
def awT1 : List UInt8 := [119, 101, 32, 97, 114, 101, 32, 104, 101, 97, 114, 32, 110, 111, 119]
def awT2 : List UInt8 := [104, 101, 114, 101, 32, 110, 111, 119]
def awT4 : List UInt8 := [116, 104, 101, 121, 32, 119, 101, 114, 101, 32, 104, 101, 114, 101, 32, 110, 111, 119]
def awS1 : Sp := ((Sp.new 2).say awT1).1
def awS2 : Sp := (awS1.fix 2 awT2).1
def awS3 : Sp := awS2.take
def awS4 : Sp := awS3.take
def awS5 : Sp := (awS4.fix 4 awT4).1
theorem aw1 : ((Sp.new 2).say awT1).2 = 0 := by kernel_rfl
theorem aw2 : (awS1.fix 2 awT2).2 = 0 := by kernel_rfl
theorem aw3 : awS2.can = true ∧ awS2.peek = ([119, 101], false, false) := ⟨by kernel_rfl, by kernel_rfl⟩
theorem aw4 : awS3.can = true ∧ awS3.peek = ([97, 114, 101], false, false) := ⟨by kernel_rfl, by kernel_rfl⟩
theorem aw5 : awS4.can = false ∧ awS4.peek = ([], false, false) := ⟨by kernel_rfl, by kernel_rfl⟩
theorem aw6 : (awS4.fix 4 awT4).2 = 0 := by kernel_rfl
theorem aw7 : awS5.opn = [([45, 45], false, true), ([116, 104, 101, 121], false, true), ([119, 101, 114, 101], false, true), ([104, 101, 114, 101], false, true), ([110, 111, 119], false, true)] := by kernel_rfl
theorem aw8 : awS5.said = [[116, 104, 101, 121], [119, 101, 114, 101], [104, 101, 114, 101], [110, 111, 119]] := by kernel_rfl
theorem awok1 : awS1.ok := say_ok (new_ok (by decide)) _
theorem awok2 : awS2.ok := fix_ok awok1 _ _
theorem awok3 : awS3.ok := take_ok awok2
theorem awok4 : awS4.ok := take_ok awok3
theorem awok5 : awS5.ok := fix_ok awok4 _ _
set_option maxHeartbeats 8000000 in
set_option maxRecDepth 100000 in
theorem awake_any (w : World) (hE : Env w) : Calls Tryd.prog 31 #[] w fun e w' => e = .returned (.bool true) ∧ Below w.heap.size w w' := by
  go_enter Tryd.func31, Tryd.ntmps31
  go_wp2_with fail
  refine (new_ow (w0 := w) 2 (by decide) (Below.refl _ _)).mono ?_
  rintro e w1 ⟨b, rfl, hA, hb⟩
  have A := Lib.hid (hA.weaken (G := fun _ => False) (fun _ h => h.elim))
  clear hA hb
  go_wp2_with fail
  refine (say_ow A.out (new_ok (by decide)) ⟨#[119, 101, 32, 97, 114, 101, 32, 104, 101, 97, 114, 32, 110, 111, 119]⟩ (by decide) hE).mono ?_
  rintro e w2 ⟨he, hA, hK⟩
  have A2 : Hid (Ow w w2 b awS1 (fun _ => False)) := Lib.hid hA
  clear A hA hK
  obtain rfl : e = .returned (.int .i64 0) := by rw [he]; exact congrArg (fun z => Ending.returned (.int .i64 z)) aw1
  clear he
  go_wp2_with fail
  refine (fix_ow A2.out awok1 2 ⟨#[104, 101, 114, 101, 32, 110, 111, 119]⟩ (by decide) hE).mono ?_
  rintro e w3 ⟨he, hA, hK⟩
  have A3 : Hid (Ow w w3 b awS2 (fun _ => False)) := Lib.hid hA
  clear A2 hA hK
  obtain rfl : e = .returned (.int .i64 0) := by rw [he]; exact congrArg (fun z => Ending.returned (.int .i64 z)) aw2
  clear he
  go_wp2_with fail
  refine (take_ow A3.out awok2).mono ?_
  rintro e w4 ⟨rfl, hA, hK⟩
  have A4 : Hid (Ow w w4 b awS3 (fun _ => False)) := Lib.hid hA
  clear A3 hA hK
  rw [aw3.1, aw3.2, spkV_ba]
  go_wp2_with fail
  have A5 := Lib.hid (A4.out.below (below1 (.cells #[.string (ba [119, 101]), .bool false, .bool false] 59) (Nat.le_refl _)))
  clear A4
  refine (take_ow A5.out awok3).mono ?_
  rintro e w5 ⟨rfl, hA, hK⟩
  have h3 := hK.obj (heap_alloc_new w4 _) (Or.inr ⟨Nat.le_refl _, by simp⟩)
  have A6 : Hid (Ow w w5 b awS4 (fun k => k = w4.heap.size)) := Lib.hid (hA.weaken (fun k e => Or.inr (by subst e; exact ⟨Nat.le_refl _, by simp⟩)))
  clear A5 hA hK
  generalize w4.heap.size = B1 at *
  rw [aw4.1, aw4.2, spkV_ba]
  have H3 := Lib.hid h3
  clear h3
  go_wp2_with fail
  have hb5 := below1 (w := w5) (.cells #[.string (ba [97, 114, 101]), .bool false, .bool false] 59) (Nat.le_refl _)
  have A7 := Lib.hid (A6.out.below hb5)
  refine (peek_ow A7.out awok4).mono ?_
  rintro e w6 ⟨rfl, hA, hb6⟩
  have H4 := Lib.hid (hb6.block _ (by simp) |>.trans (heap_alloc_new w5 (.cells #[.string (ba [97, 114, 101]), .bool false, .bool false] 59)))
  have H3' := Lib.hid (blk_stay (blk_stay H3.out hb5) hb6)
  have A8 : Hid (Ow w w6 b awS4 (fun k => k = B1 ∨ k = w5.heap.size)) := Lib.hid (hA.weaken (fun k e => by
    rcases e with e | e
    · exact Or.inl (Or.inl e)
    · exact Or.inl (Or.inr (by subst e; exact ⟨Nat.le_refl _, by simp⟩))))
  clear A6 A7 hA H3 hb5 hb6
  generalize w5.heap.size = B2 at *
  rw [aw5.1, aw5.2, spkV_ba]
  obtain ⟨x0, x1, x2, xf, xl⟩ := blk3 H3'.out
  obtain ⟨y0, y1, y2, yf, yl⟩ := blk3 H4.out
  have q1 : (ba [119, 101]).toList = [119, 101] := by rw [toList_data]; rfl
  have q2 : (ba [97, 114, 101]).toList = [97, 114, 101] := by rw [toList_data]; rfl
  go_wp2_with fail
  clear q1 q2 x0 x1 x2 xf xl y0 y1 y2 yf yl H3' H4
  have A9 := Lib.hid (A8.out.below (below1 (.cells #[.string (ba []), .bool false, .bool false] 59) (Nat.le_refl _)))
  refine (fix_ow A9.out awok4 4 ⟨#[116, 104, 101, 121, 32, 119, 101, 114, 101, 32, 104, 101, 114, 101, 32, 110, 111, 119]⟩ (by decide) hE).mono ?_
  rintro e w7 ⟨he, hA, hK⟩
  have A10 : Hid (Ow w w7 b awS5 (fun _ => False)) := Lib.hid (hA.weaken (fun _ h => h.elim))
  clear A8 A9 hA hK
  obtain rfl : e = .returned (.int .i64 0) := by rw [he]; exact congrArg (fun z => Ending.returned (.int .i64 z)) aw6
  clear he
  go_wp2_with fail
  refine (open_ow A10.out awok5).mono ?_
  rintro e w8 ⟨v, rfl, ho, hA, hb8⟩
  have A11 := Lib.hid (hA.weaken (G := fun _ => False) (fun _ h => h.elim))
  clear A10 hA hb8
  rw [aw7] at ho
  rcases ho.2 with ⟨_, e⟩ | ⟨g, cap, cur, rfl, _, hg, _, _, _, _⟩
  · simp at e
  have cel : ∀ j u, (scells [([45, 45], false, true), ([116, 104, 101, 121], false, true), ([119, 101, 114, 101], false, true), ([104, 101, 114, 101], false, true), ([110, 111, 119], false, true)])[j]? = some u → w8.cell? ⟨g, j, none⟩ = some u := by
    intro j u hu
    have := ho.cells rfl j u hu
    rwa [add_addr, Nat.zero_add] at this
  have z0 : w8.cell? ⟨g, 0, none⟩ = some (.string (ba [45, 45])) := cel 0 _ rfl
  have z1 : w8.cell? ⟨g, 1, none⟩ = some (.bool false) := cel 1 _ rfl
  have z2 : w8.cell? ⟨g, 2, none⟩ = some (.bool true) := cel 2 _ rfl
  have y0 : w8.cell? ⟨g, 12, none⟩ = some (.string (ba [110, 111, 119])) := cel 12 _ rfl
  have y1 : w8.cell? ⟨g, 13, none⟩ = some (.bool false) := cel 13 _ rfl
  have y2 : w8.cell? ⟨g, 14, none⟩ = some (.bool true) := cel 14 _ rfl
  have xl := heap_lt hg
  have q1 : (ba [45, 45]).toList = [45, 45] := by rw [toList_data]; rfl
  have q2 : (ba [110, 111, 119]).toList = [110, 111, 119] := by rw [toList_data]; rfl
  clear cel hg ho
  simp only [List.length_cons, List.length_nil, Nat.zero_add, Nat.reduceAdd]
  go_wp2_with fail
  refine (said_ow A11.out awok5).mono ?_
  rintro e w9 ⟨v, rfl, hr, hA, hb9⟩
  have A12 := Lib.hid (hA.dn)
  clear A11 hA hb9 z0 z1 z2 y0 y1 y2 xl q1 q2
  rw [aw8] at hr
  rcases hr.2 with ⟨_, e⟩ | ⟨g2, off2, cap2, rfl, hg2, hc2, hx2⟩
  · cases e
  go_wp2_with fail
  have hj := Tryd.strings_Join g2 off2 cap2 [⟨#[116, 104, 101, 121]⟩, ⟨#[119, 101, 114, 101]⟩, ⟨#[104, 101, 114, 101]⟩, ⟨#[110, 111, 119]⟩] ⟨#[32]⟩ w9 (fun j x hj => hx2 j _ (by
    match j, hj with
    | 0, e => injection e with e; subst e; rfl
    | 1, e => injection e with e; subst e; rfl
    | 2, e => injection e with e; subst e; rfl
    | 3, e => injection e with e; subst e; rfl
    | j + 4, e => cases e)) hg2 (by decide) hc2 (by decide)
  refine hj.mono ?_
  clear hj
  rintro e w10 ⟨rfl, hb10⟩
  have q3 : (⟨(Lib.join (([⟨#[116, 104, 101, 121]⟩, ⟨#[119, 101, 114, 101]⟩, ⟨#[104, 101, 114, 101]⟩, ⟨#[110, 111, 119]⟩] : List ByteArray).map (·.data.toList)) (⟨#[32]⟩ : ByteArray).data.toList).toArray⟩ : ByteArray) = ⟨#[116, 104, 101, 121, 32, 119, 101, 114, 101, 32, 104, 101, 114, 101, 32, 110, 111, 119]⟩ := by kernel_rfl
  rw [q3]
  clear q3
  have q4 : (⟨#[116, 104, 101, 121, 32, 119, 101, 114, 101, 32, 104, 101, 114, 101, 32, 110, 111, 119]⟩ : ByteArray).toList = [116, 104, 101, 121, 32, 119, 101, 114, 101, 32, 104, 101, 114, 101, 32, 110, 111, 119] := by rw [toList_data]
  go_wp2_with fail
  go_ret
  exact ⟨rfl, A12.out.trans (hb10.mono A12.out.size)⟩
end Go.Proofs.YtheemefggkcfbaaDoor
namespace Go.Proofs.YtheemefggkcfbaaDoor
open Go Go.Lib Go.RowKit Go.Shelf
theorem cut_size (s : ByteArray) (n : Nat) : (s.extract 0 (min (s.size : Int) n).toNat).size ≤ n := by
  rw [ByteArray.size_extract]; omega
theorem word_any2 (s : ByteArray) (w : World) (hs : s.size ≤ 65536) (hE : Env w) :
    Calls Tryd.prog 34 #[.string s] w fun e w' => e = .returned (.int .i64 (wordE s.data.toList)) ∧ Below w.heap.size w w' := word_any s w (by omega) hE
theorem spkL_len {s : ByteArray} (hs : s.size ≤ 65536) : (spkL s.data.toList).length ≤ 100000 := by
  unfold spkL
  split
  · have := spGo_len s.data.toList []
    have e : s.data.toList.length = s.size := rfl
    unfold spW
    omega
  · simp
set_option maxHeartbeats 8000000 in
set_option maxRecDepth 100000 in
theorem law_words (s : ByteArray) (w : World) (hs : s.size < 9223372036854775807) (hE : Env w) :
    Calls Tryd.prog 10 #[.string s] w fun e w' => e = .returned (.bool true) ∧ Below w.heap.size w w' := by
  go_enter Tryd.func10, Tryd.ntmps10
  go_wp2_with fail
  refine (awake_any w hE).mono ?_
  rintro e w1 ⟨rfl, hb1⟩
  go_wp2_with fail
  have hT : (s.extract 0 (min (s.size : Int) 200).toNat).size ≤ 65536 := Nat.le_trans (cut_size s 200) (by decide)
  generalize s.extract 0 (min (s.size : Int) 200).toNat = T at *
  refine (spk_any T w1 hT (hE.below hb1)).mono ?_
  rintro e w2 ⟨v1, rfl, ho1, hb2⟩
  have hb12 := hb1.trans (hb2.mono hb1.size)
  clear hb1
  go_wp2_with fail
  refine (rspk_any T w2 hT (hE.below hb12)).mono ?_
  rintro e w3 ⟨v2, rfl, ho2, hb3⟩
  have hb13 := hb12.trans (hb3.mono hb12.size)
  have ho1' := own_stays ho1 hb3
  clear hb12 ho1 hb2
  go_wp2_with fail
  refine (word_any2 T w3 hT (hE.below hb13)).mono ?_
  rintro e w4 ⟨rfl, hb4⟩
  have hb14 := hb13.trans (hb4.mono hb13.size)
  have r1 := (RowR.of_own ho1').below hb4
  have r2 := (RowR.of_own ho2).below hb4
  clear hb13 ho1' ho2 hb3 hb4
  go_wp2_with fail
  refine (rword_any T w4 (by omega) (hE.below hb14)).mono ?_
  rintro e w5 ⟨rfl, hb5⟩
  have hb15 := hb14.trans (hb5.mono hb14.size)
  have s1 := r1.below hb5
  have s2 := r2.below hb5
  clear hb14 r1 r2 hb5
  go_wp2_with fail
  refine (texts_same w5 v1 v2 (spkL T.data.toList) s1 s2 (spkL_len hT)).mono ?_
  rintro e w6 ⟨rfl, hb6⟩
  have hb16 := hb15.trans (hb6.mono hb15.size)
  clear hb15 hb6 s1 s2
  go_wp2_with fail
  go_ret
  exact ⟨rfl, hb16⟩
end Go.Proofs.YtheemefggkcfbaaDoor
