import Derived.Test.YtheemefggkcfbaaDoorR20
namespace Go.Proofs.YtheemefggkcfbaaDoor
open Go Go.Lib Go.RowKit Go.Shelf
theorem blk_stay {w w' : World} {b : Nat} {o : Obj} (h : w.heap[b]? = some o) (hb : Below w.heap.size w w') : w'.heap[b]? = some o := by
  rw [hb.block _ (heap_lt h)]; exact h
set_option maxHeartbeats 4000000 in
set_option maxRecDepth 100000 in
theorem open_any (w : World) (O : Nat → Prop) (b : Nat) (S : Sp) (h : SpAt w O b S) (hS : S.ok) :
    Calls Tryd.prog 39 #[ptr b] w (Made w.heap.size 59 3 S.opn.length (scells S.opn) w) := by
  obtain ⟨vo, vt, h1, h2, h3, h4, h5, h6⟩ := h
  obtain ⟨c0, c1, c2, c3, c4, c5, hf, hlt⟩ := blk_facts h1
  have c := clone59 w vo _ _ (RowR.of_own h2) (one_scells _) (by have := hS.len; omega)
  clear h1 h2 h3 h4 h5 h6
  go_enter Tryd.func39, Tryd.ntmps39
  go_wp2_with fail
  refine c.mono ?_
  rintro e w1 ⟨v, rfl, ho, hb⟩
  go_wp2_with fail
  go_ret
  exact ⟨_, rfl, ho, hb⟩
/-- The words that count. -/
def Sp.from (S : Sp) (i : Nat) : List (List UInt8) := (S.opn.drop (if i = 0 ∧ S.mark = true then 1 else i)).map (·.1)
def Sp.all (S : Sp) : List (List UInt8) := S.tkn ++ S.from 0
def last8 (l : List (List UInt8)) : List (List UInt8) := l.drop (l.length - 8)
def Sp.said (S : Sp) : List (List UInt8) := last8 S.all
theorem from_take {S : Sp} (i : Nat) (h : i < S.opn.length) (h2 : ¬ (i = 0 ∧ S.mark = true)) : S.from i = (S.opn.getD i default).1 :: S.from (i + 1) := by
  unfold Sp.from
  rw [if_neg h2, if_neg (by omega), List.drop_eq_getElem_cons h, List.getD_eq_getElem?_getD, List.getElem?_eq_getElem h]; rfl
theorem from_skip {S : Sp} (i : Nat) (h2 : i = 0 ∧ S.mark = true) : S.from i = S.from (i + 1) := by
  unfold Sp.from
  rw [if_pos h2, if_neg (by omega), h2.1]
theorem from_end {S : Sp} (i : Nat) (h : S.opn.length ≤ i) (h0 : S.mark = true → 0 < S.opn.length) : S.from i = [] := by
  unfold Sp.from
  split
  · have := h0 (by rename_i h; exact h.2); rename_i h2; omega
  · rw [List.drop_eq_nil_of_le h]; rfl
theorem wcells_len (l : List (List UInt8)) : (wcells l).length = l.length := by simp [wcells]
theorem wcells_app (a b : List (List UInt8)) : wcells (a ++ b) = wcells a ++ wcells b := by simp [wcells]
/-- The words from a place on. -/
theorem RowR.from {w : World} {n k off g cap : Nat} {l : List (List UInt8)} (h : RowR w 1 (.slice (some ⟨g, off, none⟩) n cap) n (wcells l)) (hk : k ≤ n) : RowR w 1 (.slice (some ⟨g, off + k, none⟩) (n - k) (cap - k)) (n - k) (wcells (l.drop k)) := by
  obtain ⟨hl, h' | ⟨g', off', cap', e, hg, hc, hx⟩⟩ := h
  · cases h'.1
  · injection e with e1 _ e3
    injection e1 with e1
    injection e1 with e1 e2
    subst e1 e2 e3
    rw [wcells_len] at hl
    refine ⟨by rw [wcells_len, List.length_drop]; omega, Or.inr ⟨g, off + k, cap - k, rfl, hg, by omega, fun j u hu => ?_⟩⟩
    rw [show wcells (l.drop k) = (wcells l).drop k by simp [wcells, List.map_drop], List.getElem?_drop] at hu
    rw [Nat.add_assoc]
    exact hx _ u hu
theorem last_row {w : World} {d : List (List UInt8)} {a : Option Addr} {c : Nat} (h : RowR w 1 (.slice a d.length c) d.length (wcells d)) :
    RowR w 1 (.slice (a.map (·.add (max ((d.length : Int) - 8) 0).toNat)) (d.length - (max ((d.length : Int) - 8) 0).toNat) (c - (max ((d.length : Int) - 8) 0).toNat)) (last8 d).length (wcells (last8 d)) := by
  have e : (max ((d.length : Int) - 8) 0).toNat = d.length - 8 := by omega
  rw [e]
  have e2 : (last8 d).length = d.length - (d.length - 8) := by unfold last8; rw [List.length_drop]
  rw [e2]
  obtain ⟨hl, h' | ⟨g, off, cap, e', hg, hc, hx⟩⟩ := h
  · injection h'.1 with e1 _ e3
    subst e1 e3
    have hd : d = [] := List.length_eq_zero_iff.1 h'.2
    subst hd
    exact ⟨rfl, Or.inl ⟨rfl, rfl⟩⟩
  · injection e' with e1 _ e3
    subst e1 e3
    have h2 : RowR w 1 (.slice (some ⟨g, off, none⟩) d.length c) d.length (wcells d) := ⟨hl, Or.inr ⟨g, off, c, rfl, hg, hc, hx⟩⟩
    have := h2.from (k := d.length - 8) (by omega)
    rw [Option.map_some, add_addr]
    exact this
theorem last_row2 {w : World} {d : List (List UInt8)} {a : Option Addr} (h : RowR w 1 (.slice a d.length (max ((d.length : Int) - 8) 0).toNat) d.length (wcells d)) :
    RowR w 1 (.slice a (d.length - (max ((d.length : Int) - 8) 0).toNat) 0) (last8 d).length (wcells (last8 d)) := by
  have e : (max ((d.length : Int) - 8) 0).toNat = d.length - 8 := by omega
  rw [e] at h ⊢
  have hd : d = [] := by
    obtain ⟨hl, h' | ⟨g, off, cap, e', hg, hc, hx⟩⟩ := h
    · exact List.length_eq_zero_iff.1 h'.2
    · injection e' with e1 _ e3
      exact List.length_eq_zero_iff.1 (by omega)
  subst hd
  exact h
set_option maxHeartbeats 4000000 in
set_option maxRecDepth 100000 in
theorem said_any (w : World) (O : Nat → Prop) (b : Nat) (S : Sp) (h : SpAt w O b S) (hS : S.ok) :
    Calls Tryd.prog 43 #[ptr b] w fun e w' => ∃ v, e = .returned v ∧ RowR w' 1 v S.said.length (wcells S.said) ∧ Below w.heap.size w w' := by
  obtain ⟨i0, hi, iz0, iz1, iz2⟩ := info_parts info9
  obtain ⟨vo, vt, h1, h2, h3, h4, h5, h6⟩ := h
  have c := clone9 w vt _ _ (RowR.of_own h3) (one_wcells _) (by have := hS.tkn; omega)
  obtain ⟨a, cp, rfl⟩ := own_len h2
  have hlen := hS.len
  have htk := hS.tkn
  have hmk := Lib.hid hS.mark
  have Ht := Lib.hid (@from_take S)
  have Hs := Lib.hid (@from_skip S)
  have He := Lib.hid (@from_end S)
  have HS : Hid (S.said = last8 (S.tkn ++ S.from 0)) := Lib.hid rfl
  have hget := Lib.hid (fun i h => scells_get S.opn i h)
  have HN : Hid (S.opn.length ≤ 400) := Lib.hid hlen
  go_enter Tryd.func43, Tryd.ntmps43
  obtain ⟨c0, c1, c2, c3, c4, c5, hf, hlt⟩ := blk_facts h1
  go_wp2_with fail
  refine c.mono ?_
  rintro e w1 ⟨v, rfl, ho, hb⟩
  clear c0 c1 c2 c3 c4 c5 hf hlt
  have h1' := blk_stay h1 hb
  obtain ⟨c0, c1, c2, c3, c4, c5, hf, hlt⟩ := blk_facts h1'
  go_wp2_with fail
  clear c0 c1 c2 c3 c4 c5 hf hlt h1' c
  go_loopw [3, 18] (fun v iv wx => ∃ (i : Nat) (d : List (List UInt8)), iv = .int .i64 i ∧ i ≤ S.opn.length ∧ d.length ≤ 8 + i ∧ wx.ownsRow w.heap.size 9 1 v d.length (wcells d) ∧ Below w.heap.size w wx ∧ Hid (d ++ S.from i = S.tkn ++ S.from 0)) (fun _ v _ => S.opn.length - (intOf v).toNat)
  case atStart => exact ⟨0, S.tkn, rfl, Nat.zero_le _, by omega, ho, hb, Lib.hid rfl⟩
  case round =>
    clear hb ho
    obtain ⟨i, d, rfl, hil, hd, ho, hb, HD⟩ := hrel
    have hsz := hb.size
    have h1' := blk_stay h1 hb
    have h2' := own_stays h2 hb
    obtain ⟨c0, c1, c2, c3, c4, c5, hf, hlt⟩ := blk_facts h1'
    by_cases hlt' : i < S.opn.length
    · have hz : (i : Int) < (S.opn.length : Int) := by omega
      obtain ⟨y0, y1, y2⟩ := hget.out i hlt'
      obtain ⟨g, cap, e, _, hgl⟩ := h2'.form (by omega)
      obtain ⟨rfl, rfl⟩ : a = some ⟨g, 0, none⟩ ∧ cp = cap := by injection e with e1 _ e3; exact ⟨e1, e3⟩
      have hnl : (scells S.opn).length = S.opn.length * 3 := scells_len _
      have x0 := (h2'.cellAt (i * 3) (by omega)).trans y0
      have x1 := (h2'.cellAt (i * 3 + 1) (by omega)).trans y1
      have x2 := (h2'.cellAt (i * 3 + 2) (by omega)).trans y2
      rw [strV_ba] at x0
      have Ht2 := Lib.hid (Ht.out i hlt')
      clear y0 y1 y2 e h1'
      generalize S.opn.getD i default = Y at *
      by_cases hi0 : i = 0
      · subst hi0
        cases hm : S.mark
        · rw [hm] at c2
          have HD2 := Lib.hid (HD.out.symm.trans (by rw [Ht2.out (by rw [hm]; simp)]))
          clear Ht Hs He Ht2 hget hm
          go_wp2_with (at_builtin; refine wpList_append_own _ rfl _ _ 42 rfl w.heap.size 9 i0 _ 1 16 Tryd.underlying42 hi iz0 iz1 iz2 rfl (by decide) _ _ _ rfl ((ho.alloc _).alloc _) ⟨wr.heap.size + 1, 0, none⟩ 1 1 [.string (ba Y.1)] rfl rfl ?c1 ?c2 ?c3 ?c4 ?c5 ?_)
          case c1 => exact cells_new _ _ _ (by simp)
          case c2 => simp [Value.oneCell']
          case c3 => unfold maxLen; omega
          case c4 => omega
          case c5 => simp; omega
          · intro v' w1 hown' hgrow _
            have R := wd_step (x := Y.1) ((ho.alloc _).alloc _) ((hb.alloc hsz _).alloc (by simp; omega) _) (by simp; omega) hown' hgrow
            clear hown' hgrow ho hb
            go_wp2_with fail
            go_roundw
            case rel => exact ⟨0 + 1, d ++ [Y.1], by go_num, by omega, by simp; omega, R.1, R.2, Lib.hid (by rw [List.append_assoc]; exact HD2.out.symm)⟩
            case measure => simp [intOf]; omega
        · rw [hm] at c2
          have HD2 := Lib.hid (HD.out.symm.trans (by rw [Hs.out 0 ⟨rfl, hm⟩]))
          clear Ht Hs He Ht2 hget hm
          go_wp2_with fail
          go_roundw
          case rel => exact ⟨0 + 1, d, by go_num, by omega, by omega, ho.alloc _, hb.alloc hsz _, Lib.hid HD2.out.symm⟩
          case measure => simp [intOf]; omega
      · have hiz : (0 : Int) < (i : Int) := by omega
        have HD2 := Lib.hid (HD.out.symm.trans (by rw [Ht2.out (by rintro ⟨e, _⟩; exact hi0 e)]))
        clear Ht Hs He Ht2 hget
        go_wp2_with (at_builtin; refine wpList_append_own _ rfl _ _ 42 rfl w.heap.size 9 i0 _ 1 16 Tryd.underlying42 hi iz0 iz1 iz2 rfl (by decide) _ _ _ rfl ((ho.alloc _).alloc _) ⟨wr.heap.size + 1, 0, none⟩ 1 1 [.string (ba Y.1)] rfl rfl ?c1 ?c2 ?c3 ?c4 ?c5 ?_)
        case c1 => exact cells_new _ _ _ (by simp)
        case c2 => simp [Value.oneCell']
        case c3 => unfold maxLen; omega
        case c4 => omega
        case c5 => simp; omega
        · intro v' w1 hown' hgrow _
          have R := wd_step (x := Y.1) ((ho.alloc _).alloc _) ((hb.alloc hsz _).alloc (by simp; omega) _) (by simp; omega) hown' hgrow
          clear hown' hgrow ho hb
          go_wp2_with fail
          go_roundw
          case rel => exact ⟨i + 1, d ++ [Y.1], by go_num, by omega, by simp; omega, R.1, R.2, Lib.hid (by rw [List.append_assoc]; exact HD2.out.symm)⟩
          case measure => simp [intOf]; omega
    · obtain rfl : i = S.opn.length := by omega
      have HD2 := Lib.hid (HD.out.symm.trans (by rw [He.out _ (Nat.le_refl _) hmk.out, List.append_nil]))
      have hz : ¬ (S.opn.length : Int) < (S.opn.length : Int) := by omega
      clear Ht Hs He hget
      rw [HD2.out] at HS
      clear HD2 HD
      obtain ⟨a', cp', rfl⟩ := own_len ho
      go_wp2_with fail
      · go_ret
        have hcp : cp' = (max ((d.length : Int) - 8) 0).toNat := by first | assumption | omega
        subst hcp
        exact ⟨_, rfl, by rw [HS.out]; exact last_row2 (RowR.of_own ho), hb⟩
      · go_ret
        exact ⟨_, rfl, by rw [HS.out]; exact last_row (RowR.of_own ho), hb⟩
end Go.Proofs.YtheemefggkcfbaaDoor
