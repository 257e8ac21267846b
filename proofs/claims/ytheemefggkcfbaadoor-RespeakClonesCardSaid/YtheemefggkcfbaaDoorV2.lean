import Derived.Test.YtheemefggkcfbaaDoorV1
namespace Go.Proofs.YtheemefggkcfbaaDoor
open Go Go.Lib Go.RowKit Go.Shelf
def Sp.ready (S : Sp) : Int := max (S.free : Int) ((S.opn.length : Int) - (S.hold : Int))
theorem ready_can {S : Sp} (h : S.ok) : (S.ready < 1 → S.can = false) ∧ (¬ S.ready < 1 → S.can = true) := by
  have hf := h.free
  unfold Sp.ready Sp.can
  constructor
  · intro h1
    by_cases h0 : S.opn.length = 0
    · simp [h0]
    · have a : S.opn.length ≤ S.hold := by omega
      have c : S.free = 0 := by omega
      simp [a, c]
  · intro h1
    have h0 : ¬ S.opn.length = 0 := by omega
    have h0' : S.opn ≠ [] := by intro e; rw [e] at h0; exact h0 rfl
    by_cases a : S.opn.length ≤ S.hold
    · have c : ¬ S.free = 0 := by omega
      simp [a, c, h0']
    · simp [a, h0']
set_option maxHeartbeats 4000000 in
set_option maxRecDepth 100000 in
theorem ready_any (w : World) (K : Nat → Prop) (v : Value) (S : Sp) (h : RfAt w K v S) (hS : S.ok) :
    Calls Tryd.prog 127 #[v] w fun e w' => e = .returned (.int .i64 S.ready) ∧ Below w.heap.size w w' := by
  obtain ⟨vo, vt, rfl, h1, h2, h3, h4⟩ := h
  obtain ⟨a, c, rfl⟩ := h1.len
  have hl := hS.len
  have hf := hS.free
  have hh := hS.hold
  have HZ : Hid (S.ready = max (S.free : Int) ((S.opn.length : Int) - (S.hold : Int))) := Lib.hid rfl
  clear h1 h2 h3 h4 hS
  generalize S.ready = Z at *
  generalize S.opn.length = N at *
  generalize S.free = F at *
  generalize S.hold = H at *
  go_enter Tryd.func127, Tryd.ntmps127
  go_wp2_with fail
  go_ret
  exact ⟨ret_int HZ.out.symm, below1 _ (Nat.le_refl _)⟩
set_option maxHeartbeats 4000000 in
set_option maxRecDepth 100000 in
theorem rpeek_any (w : World) (K : Nat → Prop) (v : Value) (S : Sp) (h : RfAt w K v S) (hS : S.ok) :
    Calls Tryd.prog 106 #[v] w fun e w' => e = .returned (.tuple #[spkV S.peek, .bool S.can]) ∧ Below w.heap.size w w' := by
  have cR := fun w h => ready_any w K v S h hS
  have HC := Lib.hid (ready_can hS)
  have HPn : Hid (S.can = false → S.peek = default) := Lib.hid (fun e => by unfold Sp.peek; rw [e]; rfl)
  have HP : Hid (S.can = true → S.peek = S.opn.getD 0 default) := Lib.hid (fun e => by unfold Sp.peek; rw [if_pos e])
  have Hl := Lib.hid (@can_len S)
  have HR := Lib.hid h
  obtain ⟨vo, vt, rfl, h1, h2, h3, h4⟩ := h
  obtain ⟨ao, co, rfl⟩ := h1.len
  obtain ⟨at4, ct4, rfl⟩ := h2.len
  have H1 := Lib.hid h1
  clear h1 h2 h3 h4
  go_enter Tryd.func106, Tryd.ntmps106
  go_wp2_with fail
  refine (cR _ (HR.out.below (((Below.refl _ _).alloc (Nat.le_refl _) _).alloc (by simp) _))).mono ?_
  rintro e w1 ⟨rfl, hb1⟩
  have hbb := (((Below.refl w.heap.size w).alloc (Nat.le_refl _) (.cells #[.int .i64 S.hold, .slice ao S.opn.length co, .bool S.mark, .int .i64 S.free, .slice at4 S.tkn.length ct4, .bool S.brk] 67)).alloc (by simp) (.cells #[.string ⟨#[]⟩, .bool false, .bool false] 59))
  have hb := hbb.trans (hb1.mono hbb.size)
  have k1 := blk_stay (blk_stay (heap_alloc_new w (.cells #[.int .i64 S.hold, .slice ao S.opn.length co, .bool S.mark, .int .i64 S.free, .slice at4 S.tkn.length ct4, .bool S.brk] 67)) (below1 (.cells #[.string ⟨#[]⟩, .bool false, .bool false] 59) (Nat.le_refl _))) hb1
  have k2 := blk_stay (heap_alloc_new (w.alloc (.cells #[.int .i64 S.hold, .slice ao S.opn.length co, .bool S.mark, .int .i64 S.free, .slice at4 S.tkn.length ct4, .bool S.brk] 67)) (.cells #[.string ⟨#[]⟩, .bool false, .bool false] 59)) hb1
  have hsz : (w.alloc (.cells #[.int .i64 S.hold, .slice ao S.opn.length co, .bool S.mark, .int .i64 S.free, .slice at4 S.tkn.length ct4, .bool S.brk] 67)).heap.size = w.heap.size + 1 := by simp
  rw [hsz] at k2
  have HRow := Lib.hid (H1.out.below hb)
  have Hb := Lib.hid hb
  clear cR hb1 hbb hb hsz HR H1
  obtain ⟨c0, c1, c2, c3, c4, c5, hf, hlt⟩ := blk_facts k1
  obtain ⟨r0, r1, r2, rf, rlt⟩ := blk3 k2
  clear k1
  have K2 := Lib.hid k2
  clear k2
  by_cases hr : S.ready < 1
  · have hcan := HC.out.1 hr
    have E := Lib.hid (And.intro hcan (HPn.out hcan))
    clear hcan HC HPn HP Hl
    go_wp2_with fail
    refine post_as (fun W => Below w.heap.size w W ∧ W.heap[w.heap.size + 1]? = some (.cells #[.string ⟨#[]⟩, .bool false, .bool false] 59 (0, 0))) ⟨((Hb.out.setCell (by simp) _).setCell (by simp) _).setCell (by simp) _, set3 K2.out⟩ (fun W ⟨q1, q2⟩ => ?_)
    obtain ⟨s0, s1, s2, _, _⟩ := blk3 q2
    refine bodyPost_ret (v := .tuple #[spkV default, .bool false]) (by simp [results, Tryd.results106, go_sem, s0, s1, s2]; rfl) rfl ?_
    rw [E.out.1, E.out.2]
    exact ⟨rfl, q1⟩
  · have hcan := HC.out.2 (by omega)
    have E := Lib.hid (And.intro hcan (HP.out hcan))
    have hl := Hl.out hcan
    have hlz : (0 : Int) < (S.opn.length : Int) := by omega
    obtain ⟨g, off, rfl, hg⟩ : ∃ g off, ao = some ⟨g, off, none⟩ ∧ g < w1.heap.size := by
      rcases HRow.out.2 with ⟨_, e⟩ | ⟨g, off, cap, e, hg, _⟩
      · omega
      · injection e with e1 _ _
        exact ⟨g, off, e1, hg⟩
    obtain ⟨y0, y1, y2⟩ := RowR.at3 HRow.out 0 hl
    rw [Nat.zero_mul, Nat.add_zero] at y0
    rw [Nat.zero_mul, Nat.zero_add] at y1 y2
    clear hcan HC HPn HP Hl HRow
    generalize S.opn.getD 0 default = Y at *
    go_wp2_with fail
    refine post_as (fun W => Below w.heap.size w W ∧ W.heap[w.heap.size + 1]? = some (.cells #[.string (ba Y.1), .bool Y.2.1, .bool Y.2.2] 59 (0, 0))) ⟨((Hb.out.setCell (by simp) _).setCell (by simp) _).setCell (by simp) _, set3 K2.out⟩ (fun W ⟨q1, q2⟩ => ?_)
    obtain ⟨s0, s1, s2, _, _⟩ := blk3 q2
    refine bodyPost_ret (v := .tuple #[spkV Y, .bool true]) (by simp [results, Tryd.results106, go_sem, s0, s1, s2]; rfl) rfl ?_
    rw [E.out.1, E.out.2]
    exact ⟨rfl, q1⟩
set_option maxHeartbeats 4000000 in
set_option maxRecDepth 100000 in
theorem newest_any (w : World) (a : Option Addr) (c : Nat) (l : List (List UInt8)) (h : RowR w 1 (.slice a l.length c) l.length (wcells l)) (hl : l.length ≤ 100000) :
    Calls Tryd.prog 84 #[.slice a l.length c] w (Made w.heap.size 9 1 (last8 l).length (wcells (last8 l)) w) := by
  obtain ⟨i0, hi, iz0, iz1, iz2⟩ := info_parts info9
  have hc := h.cap
  have hown := World.ownsRow_lit (base := w.heap.size) (e := 9) (size := 1) w #[] 0 (Nat.le_refl _) (by unfold maxLen; omega) rfl
  have hb0 := below1 (B := w.heap.size) (w := w) (.cells #[] 9) (Nat.le_refl _)
  have HL : Hid ((last8 l).length = l.length - (l.length - 8)) := Lib.hid (by unfold last8; rw [List.length_drop])
  have HD : Hid (last8 l = l.drop (l.length - 8)) := Lib.hid rfl
  obtain ⟨m, hm⟩ : ∃ m : Nat, m = l.length - 8 := ⟨_, rfl⟩
  have hz : max ((l.length : Int) - 8) 0 = (m : Int) := by omega
  have hml : m ≤ l.length := by omega
  have hmz : (m : Int) ≤ (l.length : Int) := by omega
  rw [← hm] at HL HD
  have H := Lib.hid h
  have hm8 : l.length - m ≤ 8 := by omega
  by_cases hcm : c = m
  · have h0 : l.length = 0 := by omega
    have hl0 : l = [] := List.length_eq_zero_iff.1 h0
    subst hl0
    obtain rfl : m = 0 := by omega
    subst hcm
    clear h hm
    go_enter Tryd.func84, Tryd.ntmps84
    go_wp2_with (at_builtin; refine wpList_append_row rfl _ _ 42 rfl w.heap.size 9 i0 _ 1 16 Tryd.underlying42 hi iz0 iz1 iz2 rfl (by decide) _ _ _ rfl hown _ 0 [] rfl (RowR.alloc H.out _) (by simp) (by decide) (by omega) (by simp) ?_)
    intro v' w1 hown' hgrow _
    have hb := app_step hown hb0 (by simp) hgrow
    clear hown hgrow hi iz0 iz1 iz2
    go_wp2_with fail
    go_ret
    exact ⟨_, rfl, hown', hb⟩
  · rcases h.2 with ⟨e, e0⟩ | ⟨g, off, cap, e, hg, hcc, hx⟩
    · exfalso
      injection e with _ _ e3
      omega
    · injection e with e1 _ e3
      subst e1 e3
      have hr := h.from (k := m) hml
      rw [← HD.out] at hr
      have HR := Lib.hid hr
      clear h hm hr hx
      go_enter Tryd.func84, Tryd.ntmps84
      go_wp2_with (at_builtin; refine wpList_append_row rfl _ _ 42 rfl w.heap.size 9 i0 _ 1 16 Tryd.underlying42 hi iz0 iz1 iz2 rfl (by decide) _ _ _ rfl hown _ (l.length - m) (wcells (last8 l)) rfl (RowR.alloc HR.out _) (one_wcells _) (by unfold maxLen; omega) (by omega) (by simp) ?_)
      intro v' w1 hown' hgrow _
      have hb := app_step hown hb0 (by simp) hgrow
      clear hown hgrow hi iz0 iz1 iz2
      go_wp2_with fail
      go_ret
      exact ⟨_, rfl, by rw [HL.out]; simpa using hown', hb⟩
end Go.Proofs.YtheemefggkcfbaaDoor
