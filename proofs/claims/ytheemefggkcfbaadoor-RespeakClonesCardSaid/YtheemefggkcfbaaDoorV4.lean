import Derived.Test.YtheemefggkcfbaaDoorV3
import Derived.Test.YtheemefggkcfbaaDoorR27
namespace Go.Proofs.YtheemefggkcfbaaDoor
open Go Go.Lib Go.RowKit Go.Shelf
/-! ### the reference's Say -/
theorem ref_app {w W W1 w5 : World} {B B' n : Nat} {L : List (List UInt8)} {vL v : Value} {xs : List Value} {bx by' : Array Value} (hbb : Below W.heap.size W W1) (h4 : W1.ownsRow w.heap.size 59 3 v n xs) (h6 : W.heap[B]? = some (.cells bx 67 (0, 0))) (h7 : W.heap[B']? = some (.cells by' 67 (0, 0))) (h1 : Below w.heap.size w W)
    (h5 : W.ownsRow w.heap.size 9 1 vL L.length (wcells L)) (hgrow : W1.grownBy w5 v.ownBlock) :
    w5.heap[B]? = some (.cells bx 67 (0, 0)) ∧ w5.heap[B']? = some (.cells by' 67 (0, 0)) ∧ Below w.heap.size w w5 ∧ w5.ownsRow w.heap.size 9 1 vL L.length (wcells L) := by
  have hB := heap_lt h6
  have hB' := heap_lt h7
  have hz := hbb.size
  refine ⟨?_, ?_, app_step h4 (h1.trans (hbb.mono h1.size)) (by have := h1.size; omega) hgrow, (own_stays h5 hbb).kept hgrow (rows_apart (by decide) h4 (own_stays h5 hbb))⟩
  · rw [hgrow.block B (by omega) (fun e => blk_ne (by decide) (blk_stay h6 hbb) (own_base h4) e.symm)]
    exact blk_stay h6 hbb
  · rw [hgrow.block B' (by omega) (fun e => blk_ne (by decide) (blk_stay h7 hbb) (own_base h4) e.symm)]
    exact blk_stay h7 hbb
theorem row6_far {w : World} {b B size n : Nat} {E E' : TypeId} {v x0 x1 x2 x3 x4 x5 : Value} {cs : Array Value} {xs : List Value} (hE : E ≠ E') (h : w.heap[b]? = some (.cells cs E (0, 0))) (ho : w.ownsRow B E' size v n xs) :
    ((((((w.setCell ⟨b, 0, none⟩ x0).setCell ⟨b, 1, none⟩ x1).setCell ⟨b, 2, none⟩ x2).setCell ⟨b, 3, none⟩ x3).setCell ⟨b, 4, none⟩ x4).setCell ⟨b, 5, none⟩ x5).ownsRow B E' size v n xs := by
  have hn : v.ownBlock ≠ some b := by
    intro e
    rcases ho.2 with h2 | ⟨g', cap', cur, rfl, _, hg, _⟩
    · rw [h2.1] at e; cases e
    · injection e with e
      subst e
      rw [hg] at h
      injection h with h
      injection h with _ h _
      exact hE h.symm
  exact own_far (own_far (own_far (own_far (own_far (own_far ho hn) hn) hn) hn) hn) hn
theorem up_of {K : Nat → Prop} {w : World} {B e s n : Nat} {v : Value} {xs : List Value} {W : World} (h : W.ownsRow B e s v n xs) (hB : w.heap.size ≤ B) : ∀ k, v.ownBlock = some k → up K w k := fun k hk => Or.inr (by have := own_from h hk; omega)
theorem below_of {a b : World} (h : Below a.heap.size a b) : Below a.heap.size a b := h
theorem rb6 {w W : World} {B b : Nat} {x0 x1 x2 x3 x4 x5 : Value} (h : Below B w W) (hb : B ≤ b) :
    Below B w ((((((W.setCell ⟨b, 0, none⟩ x0).setCell ⟨b, 1, none⟩ x1).setCell ⟨b, 2, none⟩ x2).setCell ⟨b, 3, none⟩ x3).setCell ⟨b, 4, none⟩ x4).setCell ⟨b, 5, none⟩ x5) :=
  (((((h.setCell hb _).setCell hb _).setCell hb _).setCell hb _).setCell hb _).setCell hb _
set_option maxHeartbeats 8000000 in
set_option maxRecDepth 100000 in
theorem rsay_any (w : World) (K : Nat → Prop) (v : Value) (S : Sp) (t : ByteArray) (h : RfAt w K v S) (hS : S.ok) (ht : t.size ≤ 65536) (hE : Env w) :
    Calls Tryd.prog 79 #[v, .string t] w fun e w' => ∃ v', e = .returned (.tuple #[v', .int .i64 (S.say t.data.toList).2]) ∧ RfAt w' (up K w) v' (S.say t.data.toList).1 ∧ Below w.heap.size w w' := by
  obtain ⟨i0, hi, iz0, iz1, iz2⟩ := info_parts info59
  have c := fun W hE => rspk_any t W ht hE
  have Hbad := Lib.hid (@say_bad S t.data.toList)
  have Hfull := Lib.hid (@say_full S t.data.toList)
  have Hgood := Lib.hid (@say_good S t.data.toList)
  have hLl : (spkL t.data.toList).length ≤ 65537 := by
    unfold spkL
    split
    · have h := spW_len t.data.toList
      rw [← size_eq] at h; omega
    · simp
  generalize S.say t.data.toList = R at *
  generalize spkE t.data.toList = E at *
  generalize spkL t.data.toList = L at *
  obtain ⟨vo, vt, rfl, h1, h2, h3, h4⟩ := h
  obtain ⟨ao, co, rfl⟩ := h1.len
  obtain ⟨at4, ct4, rfl⟩ := h2.len
  have hlen := hS.len
  have H1 := Lib.hid (And.intro h1 (And.intro h2 (And.intro h3 h4)))
  clear h1 h2 h3 h4 hS
  have k1 := blk_stay (heap_alloc_new w (.cells (rc S.hold (.slice ao S.opn.length co) S.mark S.free (.slice at4 S.tkn.length ct4) S.brk) 67)) (below1 (.cells rz 67) (Nat.le_refl _))
  have k2 := heap_alloc_new (w.alloc (.cells (rc S.hold (.slice ao S.opn.length co) S.mark S.free (.slice at4 S.tkn.length ct4) S.brk) 67)) (.cells rz 67)
  have hsz : (w.alloc (.cells (rc S.hold (.slice ao S.opn.length co) S.mark S.free (.slice at4 S.tkn.length ct4) S.brk) 67)).heap.size = w.heap.size + 1 := by simp
  rw [hsz] at k2
  have hb0 : Below w.heap.size w ((w.alloc (.cells (rc S.hold (.slice ao S.opn.length co) S.mark S.free (.slice at4 S.tkn.length ct4) S.brk) 67)).alloc (.cells rz 67)) := (below1 _ (Nat.le_refl _)).alloc (by simp) _
  have K0 := Lib.hid (And.intro k1 (And.intro k2 hb0))
  clear k1 k2 hb0 hsz
  go_enter Tryd.func79, Tryd.ntmps79
  go_wp2_with fail
  refine (c _ (hE.below K0.out.2.2)).mono ?_
  rintro e w1 ⟨vL, rfl, ho, hb⟩
  obtain ⟨a, cp, rfl⟩ := own_len ho
  obtain ⟨k1, k2, hb0⟩ := K0.out
  have hz0 := hb0.size
  have HO := Lib.hid (own_low (B' := w.heap.size) ho hz0)
  have HB := Lib.hid (hb0.trans (hb.mono hz0))
  have k1 := blk_stay k1 (below_of hb)
  have k2 := blk_stay k2 (below_of hb)
  clear K0 hb0 hb ho hz0 c
  have KK := Lib.hid (And.intro k1 k2)
  obtain ⟨c0, c1, c2, c3, c4, c5, hf, hlt⟩ := blk_facts k1
  obtain ⟨r0, r1, r2, r3, r4, r5, rf, rlt⟩ := blk_facts k2
  clear k1 k2
  by_cases hE0 : E = 0
  · subst hE0
    by_cases hfull : 400 < S.opn.length + L.length
    · have HR := Lib.hid (Hfull.out rfl hfull)
      have hz : (400 : Int) < (S.opn.length : Int) + (L.length : Int) := by omega
      clear Hbad Hfull Hgood
      go_wp2_with fail
      refine post_as (fun W => Below w.heap.size w W ∧ W.heap[w.heap.size + 1]? = some (.cells (rc S.hold (.slice ao S.opn.length co) S.mark S.free (.slice at4 S.tkn.length ct4) S.brk) 67 (0, 0))) ⟨rb6 HB.out (by omega), set6 KK.out.2⟩ (fun W ⟨q1, q2⟩ => ?_)
      obtain ⟨s0, s1, s2, s3, s4, s5, _, _⟩ := blk_facts q2
      refine bodyPost_ret (v := .tuple #[rv S.hold (.slice ao S.opn.length co) S.mark S.free (.slice at4 S.tkn.length ct4) S.brk, .int .i64 9]) (by simp [results, Tryd.results79, go_sem, s0, s1, s2, s3, s4, s5]) rfl ?_
      rw [HR.out]
      exact ⟨_, rfl, ⟨_, _, rfl, H1.out.1.below q1, H1.out.2.1.below q1, fun k hk => Or.inl (H1.out.2.2.1 k hk), fun k hk => Or.inl (H1.out.2.2.2 k hk)⟩, q1⟩
    · have HR := Lib.hid (Hgood.out rfl hfull)
      have hz : ¬ (400 : Int) < (S.opn.length : Int) + (L.length : Int) := by omega
      clear Hbad Hfull Hgood
      have HT : Hid (R.1.opn = S.opn ++ newGo S.brk false 0 L ∧ R.1 = { S with opn := R.1.opn, brk := false } ∧ R.2 = 0) := Lib.hid (by rw [HR.out]; exact ⟨rfl, rfl, rfl⟩)
      go_wp2_with (at_builtin; refine wpList_append_row rfl _ _ 51 rfl w.heap.size 59 i0 _ 3 24 Tryd.underlying51 hi iz0 iz1 iz2 rfl (by decide) _ _ _ rfl (lit59 w w1 _ rfl (by have := HB.out.size; omega)) _ S.opn.length (scells S.opn) rfl ((H1.out.1.below HB.out).alloc _) (one_scells _) (by unfold maxLen; omega) (by omega) (by have := HB.out.size; simp; omega) ?_)
      intro v' w2 hown hgrow _
      obtain ⟨a7, c7, rfl⟩ := own_len hown
      have Q := Lib.hid (ref_app (below1 _ (Nat.le_refl _)) (lit59 w w1 _ rfl (by have := HB.out.size; omega)) KK.out.1 KK.out.2 HB.out HO.out hgrow)
      have QO : Hid (w2.ownsRow w.heap.size 59 3 (.slice a7 S.opn.length c7) S.opn.length (scells S.opn)) := Lib.hid (by simpa using hown)
      clear hown hgrow KK HO HB c0 c1 c2 c3 c4 c5 hf hlt r0 r1 r2 r3 r4 r5 rf rlt
      have k1 := Q.out.1
      obtain ⟨c0, c1, c2, c3, c4, c5, hf, hlt⟩ := blk_facts k1
      clear k1
      go_wp2_with fail
      clear c0 c1 c2 c3 c4 c5 hf hlt
      go_loopw [34] (fun iv wx => ∃ (i : Nat) (d : List Spk) (u : Value), iv = .int .i64 i ∧ i ≤ L.length ∧ d.length ≤ S.opn.length + i ∧ wx.ownsRow w.heap.size 59 3 u d.length (scells d) ∧ wx.heap[w.heap.size]? = some (.cells (rc S.hold u S.mark S.free (.slice at4 S.tkn.length ct4) S.brk) 67 (0, 0)) ∧ wx.heap[w.heap.size + 1]? = some (.cells rz 67 (0, 0)) ∧ Below w.heap.size w wx ∧ wx.ownsRow w.heap.size 9 1 (.slice a L.length cp) L.length (wcells L) ∧ Hid (d ++ newGo S.brk false i (L.drop i) = R.1.opn)) (fun v _ => L.length - (intOf v).toNat)
      case atStart => exact ⟨0, S.opn, _, rfl, Nat.zero_le _, by omega, row_far (by decide) Q.out.1 QO.out, blk_set Q.out.1, (heap_setCell_other _ _ _ _ (by simp)).trans Q.out.2.1, Q.out.2.2.1.setCell (Nat.le_refl _) _, row_far (by decide) Q.out.1 Q.out.2.2.2, Lib.hid (by rw [List.drop_zero]; exact HT.out.1.symm)⟩
      case round =>
        clear Q QO
        obtain ⟨i, d, u, rfl, hil, hd, q1, q2, q3, q4, q5, HD⟩ := hrel
        obtain ⟨a8, c8, rfl⟩ := own_len q1
        obtain ⟨c0, c1, c2, c3, c4, c5, hf, hlt⟩ := blk_facts q2
        by_cases hlt' : i < L.length
        · have hz : (i : Int) < (L.length : Int) := by omega
          obtain ⟨g, rfl, hg, hc⟩ := own_at q5 i hlt'
          rw [strV_ba] at hc
          have HD2 := Lib.hid (HD.out.symm.trans (by rw [newGo_drop S.brk false L i hlt']))
          have Q := Lib.hid (And.intro q1 (And.intro q2 (And.intro q3 (And.intro q4 q5))))
          have HZZ : Hid (∀ o : Obj, w.heap.size ≤ (wr.alloc o).heap.size) := Lib.hid (fun o => by have := q4.size; simp; omega)
          clear q1 q2 q3 q4 q5 HD
          generalize hY : L.getD i [] = Y at *
          clear hY
          by_cases hi0 : i = 0
          · subst hi0
            have hiz : ((0 : Int) == 0) = true := rfl
            go_wp2_with (at_builtin; refine wpList_append_lies _ rfl _ _ 51 rfl w.heap.size 59 i0 _ 3 24 Tryd.underlying51 hi iz0 iz1 iz2 rfl (by decide) (.slice a8 d.length c8) d.length _ rfl (Q.out.1.alloc _) ⟨wr.heap.size, 0, none⟩ 1 1 [.string (ba Y), .bool S.brk, .bool false] rfl rfl (World.news_of_block (cs := #[.string (ba Y), .bool S.brk, .bool false]) (t := 59) (fr := (0, 0)) (heap_alloc_new wr _)) (by simp [Value.oneCell']) (by decide) (by unfold maxLen; omega) (by omega) (HZZ.out _) (wr.heap.size + 1) (by simp) ?_)
            intro gg cap w5 hown hgrow hat hlt5
            have hq := open_stepB (d' := d ++ [(Y, S.brk, false)]) (x := (Y, S.brk, false)) hown rfl rfl
            have hdl' : (d ++ [(Y, S.brk, false)]).length = d.length + 1 := by rw [List.length_append]; rfl
            have HQ := Lib.hid (ref_app (below1 _ (Nat.le_refl _)) (Q.out.1.alloc _) Q.out.2.1 Q.out.2.2.1 Q.out.2.2.2.1 Q.out.2.2.2.2 hgrow)
            have HQ2 := Lib.hid hq
            have HD3 := Lib.hid hdl'
            clear hown hgrow hat hq hdl' c0 c1 c2 c3 c4 c5 hf hlt
            have k1 := HQ.out.1
            obtain ⟨c0, c1, c2, c3, c4, c5, hf, hlt⟩ := blk_facts k1
            clear k1
            go_wp2_with fail
            go_roundw
            case rel => exact ⟨0 + 1, d ++ [(Y, S.brk, false)], _, by go_num, by omega, by rw [HD3.out]; omega, row_far (by decide) HQ.out.1 (by have := HQ2.out; rw [HD3.out] at this ⊢; exact this), blk_set HQ.out.1, (heap_setCell_other _ _ _ _ (by simp)).trans HQ.out.2.1, HQ.out.2.2.1.setCell (Nat.le_refl _) _, row_far (by decide) HQ.out.1 HQ.out.2.2.2, Lib.hid (by rw [List.append_assoc]; exact HD2.out.symm)⟩
            case measure => simp [intOf]; omega
          · have hiz : ((i : Int) == 0) = false := by simp; omega
            have hin : (i == 0) = false := by simpa using hi0
            rw [hin, Bool.false_and] at HD2
            clear hin
            go_wp2_with (at_builtin; refine wpList_append_lies _ rfl _ _ 51 rfl w.heap.size 59 i0 _ 3 24 Tryd.underlying51 hi iz0 iz1 iz2 rfl (by decide) (.slice a8 d.length c8) d.length _ rfl (Q.out.1.alloc _) ⟨wr.heap.size, 0, none⟩ 1 1 [.string (ba Y), .bool false, .bool false] rfl rfl (World.news_of_block (cs := #[.string (ba Y), .bool false, .bool false]) (t := 59) (fr := (0, 0)) (heap_alloc_new wr _)) (by simp [Value.oneCell']) (by decide) (by unfold maxLen; omega) (by omega) (HZZ.out _) (wr.heap.size + 1) (by simp) ?_)
            intro gg cap w5 hown hgrow hat hlt5
            have hq := open_stepB (d' := d ++ [(Y, false, false)]) (x := (Y, false, false)) hown rfl rfl
            have hdl' : (d ++ [(Y, false, false)]).length = d.length + 1 := by rw [List.length_append]; rfl
            have HQ := Lib.hid (ref_app (below1 _ (Nat.le_refl _)) (Q.out.1.alloc _) Q.out.2.1 Q.out.2.2.1 Q.out.2.2.2.1 Q.out.2.2.2.2 hgrow)
            have HQ2 := Lib.hid hq
            have HD3 := Lib.hid hdl'
            clear hown hgrow hat hq hdl' c0 c1 c2 c3 c4 c5 hf hlt
            have k1 := HQ.out.1
            obtain ⟨c0, c1, c2, c3, c4, c5, hf, hlt⟩ := blk_facts k1
            clear k1
            go_wp2_with fail
            go_roundw
            case rel => exact ⟨i + 1, d ++ [(Y, false, false)], _, by go_num, by omega, by rw [HD3.out]; omega, row_far (by decide) HQ.out.1 (by have := HQ2.out; rw [HD3.out] at this ⊢; exact this), blk_set HQ.out.1, (heap_setCell_other _ _ _ _ (by simp)).trans HQ.out.2.1, HQ.out.2.2.1.setCell (Nat.le_refl _) _, row_far (by decide) HQ.out.1 HQ.out.2.2.2, Lib.hid (by rw [List.append_assoc]; exact HD2.out.symm)⟩
            case measure => simp [intOf]; omega
        · obtain rfl : i = L.length := by omega
          have hz : ¬ (L.length : Int) < (L.length : Int) := by omega
          have hD2 := HD.out
          rw [newGo_end, List.append_nil] at hD2
          have HD2 := Lib.hid hD2
          clear hD2
          obtain ⟨r0, r1, r2, r3, r4, r5, rf, rlt⟩ := blk_facts q3
          have Q := Lib.hid (And.intro q1 (And.intro q2 (And.intro q3 q4)))
          clear q1 q2 q3 q4 q5 HD
          go_wp2_with fail
          refine post_as (fun W => Below w.heap.size w W ∧ W.heap[w.heap.size + 1]? = some (.cells (rc S.hold (.slice a8 d.length c8) S.mark S.free (.slice at4 S.tkn.length ct4) false) 67 (0, 0)) ∧ W.ownsRow w.heap.size 59 3 (.slice a8 d.length c8) d.length (scells d))
            ⟨rb6 (Q.out.2.2.2.setCell (Nat.le_refl _) _) (by omega), set6 ((heap_setCell_other _ ⟨w.heap.size, 5, none⟩ _ _ (by simp)).trans Q.out.2.2.1), row6_far (by decide) ((heap_setCell_other _ ⟨w.heap.size, 5, none⟩ _ _ (by simp)).trans Q.out.2.2.1) (row_far (by decide) Q.out.2.1 Q.out.1)⟩ (fun W ⟨p1, p2, p3⟩ => ?_)
          obtain ⟨s0, s1, s2, s3, s4, s5, _, _⟩ := blk_facts p2
          refine bodyPost_ret (v := .tuple #[rv S.hold (.slice a8 d.length c8) S.mark S.free (.slice at4 S.tkn.length ct4) false, .int .i64 0]) (by simp [results, Tryd.results79, go_sem, s0, s1, s2, s3, s4, s5]) rfl ?_
          have e1 : R.1 = { S with opn := d, brk := false } := HT.out.2.1.trans (by rw [HD2.out])
          rw [e1, HT.out.2.2]
          exact ⟨_, rfl, ⟨_, _, rfl, RowR.of_own p3, H1.out.2.1.below p1, up_of p3 (Nat.le_refl _), fun k hk => Or.inl (H1.out.2.2.2 k hk)⟩, p1⟩
  · have HR := Lib.hid (Hbad.out hE0)
    have hEz : (E == 0) = false := by simpa using hE0
    clear Hbad Hfull Hgood
    go_wp2_with fail
    refine post_as (fun W => Below w.heap.size w W ∧ W.heap[w.heap.size + 1]? = some (.cells (rc S.hold (.slice ao S.opn.length co) S.mark S.free (.slice at4 S.tkn.length ct4) S.brk) 67 (0, 0))) ⟨rb6 HB.out (by omega), set6 KK.out.2⟩ (fun W ⟨q1, q2⟩ => ?_)
    obtain ⟨s0, s1, s2, s3, s4, s5, _, _⟩ := blk_facts q2
    refine bodyPost_ret (v := .tuple #[rv S.hold (.slice ao S.opn.length co) S.mark S.free (.slice at4 S.tkn.length ct4) S.brk, .int .i64 E]) (by simp [results, Tryd.results79, go_sem, s0, s1, s2, s3, s4, s5]) rfl ?_
    rw [HR.out]
    exact ⟨_, rfl, ⟨_, _, rfl, H1.out.1.below q1, H1.out.2.1.below q1, fun k hk => Or.inl (H1.out.2.2.1 k hk), fun k hk => Or.inl (H1.out.2.2.2 k hk)⟩, q1⟩
end Go.Proofs.YtheemefggkcfbaaDoor
