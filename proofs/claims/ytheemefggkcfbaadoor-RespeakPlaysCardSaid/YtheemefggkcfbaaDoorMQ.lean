import Derived.Test.YtheemefggkcfbaaDoorMP
import Derived.Test.YtheemefggkcfbaaDoorME
import Derived.Test.YtheemefggkcfbaaDoorMO
namespace Go.Proofs.YtheemefggkcfbaaDoor
open Go Go.Lib Go.RowKit Go.Shelf
/-! ### one act, with a speaker and with that of the reference -/
def DoEnd (w0 w : World) (b : Nat) (S : Sp) (F : Nat → Prop) (e : Ending) (w' : World) : Prop :=
  ∃ v' F', e = .returned (.tuple #[v', .bool true]) ∧ Ow w0 w' b S F' ∧ RfAt w' F' v' S ∧ (∀ k, F k → F' k) ∧ Keep F w w'
/-- What the body keeps: two boxes, and the place of the result. -/
def DoMid (w0 w : World) (b : Nat) (F : Nat → Prop) (cs x : Array Value) (B : Nat) (L : List (Nat × Obj)) (S1 : Sp) (v : Value) (S2 : Sp) (wx : World) : Prop :=
  ∃ F', Ow w0 wx b S1 F' ∧ RfAt wx (fun k => F' k ∧ k ≠ B + 1 + 1) v S2 ∧ (∀ k, F k → F' k) ∧ Keep F w wx ∧ (F' B ∧ F' (B + 1) ∧ F' (B + 1 + 1) ∧ w0.heap.size ≤ B ∧ (∀ k, F k → k < B)) ∧ wx.heap[B]? = some (.cells cs 67 (0, 0)) ∧ wx.heap[B + 1]? = some (.cells x 57 (0, 0)) ∧ wx.heap[B + 1 + 1]? = some (.cells rz 67 (0, 0)) ∧ ∀ p ∈ L, F' p.1 ∧ wx.heap[p.1]? = some p.2
section
variable {w0 w wx w' : World} {b B : Nat} {L : List (Nat × Obj)} {S S1 S2 : Sp} {F K : Nat → Prop} {cs x : Array Value} {v v' : Value}
theorem rf_also (h : RfAt w' (up K w) v S) : RfAt w' (also K w w') v S := by
  obtain ⟨vo, vt, e, r1, r2, o1, o2⟩ := h
  refine ⟨vo, vt, e, r1, r2, fun k hk => ?_, fun k hk => ?_⟩
  · rcases o1 k hk with g | g
    · exact Or.inl g
    · exact Or.inr ⟨g, r1.lt hk⟩
  · rcases o2 k hk with g | g
    · exact Or.inl g
    · exact Or.inr ⟨g, r2.lt hk⟩
theorem mid_start (h : Ow w0 w b S F) (hR : RfAt w F v S) : DoMid w0 w b F cs x w.heap.size [] S v S (((w.alloc (.cells cs 67)).alloc (.cells x 57)).alloc (.cells rz 67)) := by
  have b1 := below1 (B := w.heap.size) (w := w) (.cells cs 67) (Nat.le_refl _)
  have b2 := b1.alloc b1.size (.cells x 57)
  have b3 := b2.alloc b2.size (.cells rz 67)
  have hz : (((w.alloc (.cells cs 67)).alloc (.cells x 57)).alloc (.cells rz 67)).heap.size = w.heap.size + 1 + 1 + 1 := by simp
  have k1 := heap_alloc_new (w.alloc (.cells cs 67)) (.cells x 57)
  have k2 := heap_alloc_new ((w.alloc (.cells cs 67)).alloc (.cells x 57)) (.cells rz 67)
  simp only [World.size_alloc] at k1 k2
  refine ⟨_, h.below b3, (hR.below b3).weaken (fun k _ hk => ⟨Or.inl hk, by have := h.lt hk; omega⟩), fun k hk => Or.inl hk, Keep.of_below b3, ⟨Or.inr ⟨Nat.le_refl _, by omega⟩, Or.inr ⟨by omega, by omega⟩, Or.inr ⟨by omega, by omega⟩, h.dn.size, fun k hk => h.lt hk⟩, ?_, ?_, k2, fun p hp => by cases hp⟩
  · exact blk_stay (blk_stay (heap_alloc_new w _) (below1 _ (Nat.le_refl _))) (below1 _ (Nat.le_refl _))
  · exact blk_stay k1 (below1 _ (Nat.le_refl _))
theorem DoMid.dn (h : DoMid w0 w b F cs x B L S1 v S2 wx) : Below w0.heap.size w0 wx := by obtain ⟨_, h1, _⟩ := h; exact h1.dn
theorem DoMid.rf (h : DoMid w0 w b F cs x B L S1 v S2 wx) : ∃ F', RfAt wx F' v S2 := by obtain ⟨F', _, h1, _⟩ := h; exact ⟨_, h1⟩
theorem DoMid.boxes (h : DoMid w0 w b F cs x B L S1 v S2 wx) : wx.heap[B]? = some (.cells cs 67 (0, 0)) ∧ wx.heap[B + 1]? = some (.cells x 57 (0, 0)) ∧ wx.heap[B + 1 + 1]? = some (.cells rz 67 (0, 0)) := by
  obtain ⟨_, _, _, _, _, _, h1, h2, h3, _⟩ := h; exact ⟨h1, h2, h3⟩
theorem DoMid.below (h : DoMid w0 w b F cs x B L S1 v S2 wx) (hb : Below wx.heap.size wx w') : DoMid w0 w b F cs x B L S1 v S2 w' := by
  obtain ⟨F', h1, h2, h3, h4, h5, h6, h7, h8, h9⟩ := h
  exact ⟨_, h1.below hb, (h2.below hb).weaken (fun k _ hk => ⟨Or.inl hk.1, hk.2⟩), fun k hk => Or.inl (h3 k hk), h4.trans (Keep.of_below hb), ⟨Or.inl h5.1, Or.inl h5.2.1, Or.inl h5.2.2.1, h5.2.2.2⟩, blk_stay h6 hb, blk_stay h7 hb, blk_stay h8 hb, fun p hp => ⟨Or.inl (h9 p hp).1, blk_stay (h9 p hp).2 hb⟩⟩
/-- A box more. -/
theorem DoMid.box (h : DoMid w0 w b F cs x B L S1 v S2 wx) (c : Array Value) (E : TypeId) : DoMid w0 w b F cs x B ((wx.heap.size, .cells c E (0, 0)) :: L) S1 v S2 (wx.alloc (.cells c E)) := by
  have hb := below1 (B := wx.heap.size) (w := wx) (.cells c E) (Nat.le_refl _)
  obtain ⟨F', h1, h2, h3, h4, h5, h6, h7, h8, h9⟩ := h
  refine ⟨_, h1.below hb, (h2.below hb).weaken (fun k _ hk => ⟨Or.inl hk.1, hk.2⟩), fun k hk => Or.inl (h3 k hk), h4.trans (Keep.of_below hb), ⟨Or.inl h5.1, Or.inl h5.2.1, Or.inl h5.2.2.1, h5.2.2.2⟩, blk_stay h6 hb, blk_stay h7 hb, blk_stay h8 hb, fun p hp => ?_⟩
  rcases List.mem_cons.1 hp with rfl | hp
  · exact ⟨Or.inr ⟨Nat.le_refl _, by simp⟩, heap_alloc_new wx _⟩
  · exact ⟨Or.inl (h9 p hp).1, blk_stay (h9 p hp).2 hb⟩
theorem DoMid.more (h : DoMid w0 w b F cs x B L S1 v S2 wx) : ∀ p ∈ L, wx.heap[p.1]? = some p.2 := by
  obtain ⟨F', h1, h2, h3, h4, h5, h6, h7, h8, h9⟩ := h
  exact fun p hp => (h9 p hp).2
/-- A step of the speaker's. -/
theorem DoMid.sp (h : DoMid w0 w b F cs x B L S1 v S2 wx) {f : FuncId} {args : Array Value} {E : Ending} {S' : Sp} (c : ∀ F', Ow w0 wx b S1 F' → Calls Tryd.prog f args wx fun e w' => e = E ∧ Ow w0 w' b S' F' ∧ Keep F' wx w') :
    Calls Tryd.prog f args wx fun e w' => e = E ∧ DoMid w0 w b F cs x B L S' v S2 w' := by
  obtain ⟨F', h1, h2, h3, h4, h5, h6, h7, h8, h9⟩ := h
  refine (c F' h1).mono ?_
  rintro e w' ⟨rfl, hA, hK⟩
  exact ⟨rfl, F', hA, (hK.weaken (fun _ g => g.1)).rf h2, h3, h4.trans (hK.weaken h3), h5, hK.obj h6 h5.1, hK.obj h7 h5.2.1, hK.obj h8 h5.2.2.1, fun p hp => ⟨(h9 p hp).1, hK.obj (h9 p hp).2 (h9 p hp).1⟩⟩
/-- A step of the reference's, by its contract. -/
theorem DoMid.rf_call (h : DoMid w0 w b F cs x B L S1 v S2 wx) {f : FuncId} {args : Array Value} {E : Value → Ending} {S' : Sp} (c : ∀ F', RfAt wx F' v S2 → Calls Tryd.prog f args wx fun e w' => ∃ v', e = E v' ∧ RfAt w' (up F' wx) v' S' ∧ Below wx.heap.size wx w') :
    Calls Tryd.prog f args wx fun e w' => ∃ v', e = E v' ∧ DoMid w0 w b F cs x B L S1 v' S' w' := by
  obtain ⟨F', h1, h2, h3, h4, h5, h6, h7, h8, h9⟩ := h
  refine (c _ h2).mono ?_
  rintro e w' ⟨v', rfl, hR, hb⟩
  have hlt := heap_lt h8
  refine ⟨v', rfl, _, h1.below hb, (rf_also hR).weaken (fun k _ g => ?_), fun k hk => Or.inl (h3 k hk), h4.trans (Keep.of_below hb), ⟨Or.inl h5.1, Or.inl h5.2.1, Or.inl h5.2.2.1, h5.2.2.2⟩, blk_stay h6 hb, blk_stay h7 hb, blk_stay h8 hb, fun p hp => ⟨Or.inl (h9 p hp).1, blk_stay (h9 p hp).2 hb⟩⟩
  rcases g with g | g
  · exact ⟨Or.inl g.1, g.2⟩
  · exact ⟨Or.inr g, by omega⟩
/-- The stores into the result's place. -/
theorem DoMid.last (h : DoMid w0 w b F cs x B L S1 v S2 wx) (x0 x1 x2 x3 x4 x5 : Value) :
    ∃ F', Ow w0 ((((((wx.setCell ⟨B + 1 + 1, 0, none⟩ x0).setCell ⟨B + 1 + 1, 1, none⟩ x1).setCell ⟨B + 1 + 1, 2, none⟩ x2).setCell ⟨B + 1 + 1, 3, none⟩ x3).setCell ⟨B + 1 + 1, 4, none⟩ x4).setCell ⟨B + 1 + 1, 5, none⟩ x5) b S1 F' ∧
      RfAt ((((((wx.setCell ⟨B + 1 + 1, 0, none⟩ x0).setCell ⟨B + 1 + 1, 1, none⟩ x1).setCell ⟨B + 1 + 1, 2, none⟩ x2).setCell ⟨B + 1 + 1, 3, none⟩ x3).setCell ⟨B + 1 + 1, 4, none⟩ x4).setCell ⟨B + 1 + 1, 5, none⟩ x5) F' v S2 ∧
      (∀ k, F k → F' k) ∧ Keep F w ((((((wx.setCell ⟨B + 1 + 1, 0, none⟩ x0).setCell ⟨B + 1 + 1, 1, none⟩ x1).setCell ⟨B + 1 + 1, 2, none⟩ x2).setCell ⟨B + 1 + 1, 3, none⟩ x3).setCell ⟨B + 1 + 1, 4, none⟩ x4).setCell ⟨B + 1 + 1, 5, none⟩ x5) ∧
      ((((((wx.setCell ⟨B + 1 + 1, 0, none⟩ x0).setCell ⟨B + 1 + 1, 1, none⟩ x1).setCell ⟨B + 1 + 1, 2, none⟩ x2).setCell ⟨B + 1 + 1, 3, none⟩ x3).setCell ⟨B + 1 + 1, 4, none⟩ x4).setCell ⟨B + 1 + 1, 5, none⟩ x5).heap[B + 1 + 1]? = some (.cells #[x0, x1, x2, x3, x4, x5] 67 (0, 0)) := by
  obtain ⟨F', h1, ⟨vo, vt, rfl, r1, r2, o1, o2⟩, h3, h4, h5, h6, h7, h8, _⟩ := h
  have hB := h5.2.2.1
  have h0 : w0.heap.size ≤ B + 1 + 1 := by have := h5.2.2.2.1; omega
  have n1 : vo.ownBlock ≠ some (B + 1 + 1) := fun e => (o1 _ e).2 rfl
  have n2 : vt.ownBlock ≠ some (B + 1 + 1) := fun e => (o2 _ e).2 rfl
  refine ⟨F', (((((h1.far hB h0).far hB h0).far hB h0).far hB h0).far hB h0).far hB h0, ⟨vo, vt, rfl, (((((r1.far n1).far n1).far n1).far n1).far n1).far n1, (((((r2.far n2).far n2).far n2).far n2).far n2).far n2, fun k hk => (o1 k hk).1, fun k hk => (o2 k hk).1⟩, h3, ?_, set6 h8⟩
  refine ⟨by simpa using h4.size, fun k hk f => ?_⟩
  have hne : k ≠ B + 1 + 1 := by have := h5.2.2.2.2 k f; omega
  rw [heap_setCell_other _ _ _ _ hne, heap_setCell_other _ _ _ _ hne, heap_setCell_other _ _ _ _ hne, heap_setCell_other _ _ _ _ hne, heap_setCell_other _ _ _ _ hne, heap_setCell_other _ _ _ _ hne]
  exact h4.block k hk f
end
set_option maxHeartbeats 8000000 in
set_option maxRecDepth 100000 in
theorem do_say (w0 w : World) (b : Nat) (S : Sp) (F : Nat → Prop) (v : Value) (k : Nat) (n : Int) (t T : ByteArray) (h : Ow w0 w b S F) (hS : S.ok) (hR : RfAt w F v S) (hk : k % 10 < 3) (hT : t.extract 0 (min (t.size : Int) 200).toNat = T) (hE : Env w0) :
    Calls Tryd.prog 46 #[ptr b, v, .agg #[.int .u8 k, .int .i64 n, .string t]] w (DoEnd w0 w b (S.say T.data.toList).1 F) := by
  have hTs : T.size ≤ 65536 := by rw [← hT]; exact Nat.le_trans (cut_size t 200) (by decide)
  have HT := Lib.hid hT
  clear hT
  obtain ⟨vo, vt, rfl, r1, r2, o1, o2⟩ := hR
  have M := Lib.hid (mid_start (cs := rc S.hold vo S.mark S.free vt S.brk) (x := #[.int .u8 k, .int .i64 n, .string t]) h ⟨vo, vt, rfl, r1, r2, o1, o2⟩)
  clear h r1 r2 o1 o2
  have hcase : (k : Int) % 10 = 0 ∨ (k : Int) % 10 = 1 ∨ (k : Int) % 10 = 2 := by omega
  rcases hcase with hq | hq | hq
  all_goals
    go_enter Tryd.func46, Tryd.ntmps46
    go_wp2_with fail
    rw [HT.out]
    refine (M.out.sp (fun F' hO => say_ow hO hS T hTs hE)).mono ?_
    rintro e w1 ⟨rfl, M1⟩
    have M1 := Lib.hid M1
    clear M
    generalize hBw : w.heap.size = B at *
    clear hBw
    obtain ⟨q1, q2, q3⟩ := M1.out.boxes
    obtain ⟨c0, c1, c2, c3, c4, c5, cf, cl⟩ := blk_facts q1
    clear q1 q2 q3
    obtain ⟨Z, hZ⟩ : ∃ Z, (S.say T.data.toList).2 = Z := ⟨_, rfl⟩
    rw [hZ]
    have HZ := Lib.hid hZ
    clear hZ
    go_wp2_with fail
    refine (M1.out.rf_call (E := fun v' => .returned (.tuple #[v', .int .i64 Z])) (fun K hK => by have := rsay_any w1 K _ S T hK hS hTs (hE.below M1.out.dn); rw [HZ.out] at this; exact this)).mono ?_
    rintro e w2 ⟨v', rfl, M2⟩
    have M2 := Lib.hid M2
    clear M1 c0 c1 c2 c3 c4 c5 cf cl HZ
    generalize (S.say T.data.toList).1 = S2 at *
    obtain ⟨_, vo', vt', rfl, g1, g2, _, _⟩ := M2.out.rf
    obtain ⟨ao, co, rfl⟩ := g1.len
    obtain ⟨at4, ct4, rfl⟩ := g2.len
    clear g1 g2
    go_upto_region 8 with fail
    refine world_as (fun W => DoMid w0 w b F (rc S.hold vo S.mark S.free vt S.brk) #[.int .u8 k, .int .i64 n, .string t] B [] S2 (rv S2.hold (.slice ao S2.opn.length co) S2.mark S2.free (.slice at4 S2.tkn.length ct4) S2.brk) S2 W ∧
      W.heap[w2.heap.size]? = some (.cells (rc S2.hold (.slice ao S2.opn.length co) S2.mark S2.free (.slice at4 S2.tkn.length ct4) S2.brk) 67 (0, 0))) ⟨M2.out.below (below1 _ (Nat.le_refl _)), heap_alloc_new w2 _⟩ ?_
    rintro W ⟨M3, k1⟩
    have M3 := Lib.hid M3
    clear M2
    generalize hB2 : w2.heap.size = B2 at *
    clear hB2
    obtain ⟨q1, q2, q3⟩ := M3.out.boxes
    obtain ⟨c0, c1, c2, c3, c4, c5, cf, cl⟩ := blk_facts q3
    obtain ⟨d0, d1, d2, d3, d4, d5, df, dl⟩ := blk_facts k1
    clear q1 q2 q3 k1
    go_wp21
    refine post_as (fun WW => ∃ F', Ow w0 WW b S2 F' ∧ RfAt WW F' (rv S2.hold (.slice ao S2.opn.length co) S2.mark S2.free (.slice at4 S2.tkn.length ct4) S2.brk) S2 ∧ (∀ k, F k → F' k) ∧ Keep F w WW ∧
      WW.heap[B + 1 + 1]? = some (.cells (rc S2.hold (.slice ao S2.opn.length co) S2.mark S2.free (.slice at4 S2.tkn.length ct4) S2.brk) 67 (0, 0))) (M3.out.last _ _ _ _ _ _) ?_
    rintro WW ⟨F', e1, e2, e3, e4, e5⟩
    obtain ⟨s0, s1, s2, s3, s4, s5, _, _⟩ := blk_facts e5
    refine bodyPost_ret (v := .tuple #[rv S2.hold (.slice ao S2.opn.length co) S2.mark S2.free (.slice at4 S2.tkn.length ct4) S2.brk, .bool true]) (by simp [results, Tryd.results46, go_sem, s0, s1, s2, s3, s4, s5]) rfl ?_
    exact ⟨_, F', rfl, e1, e2, e3, e4⟩
end Go.Proofs.YtheemefggkcfbaaDoor
namespace Go.Proofs.YtheemefggkcfbaaDoor
open Go Go.Lib Go.RowKit Go.Shelf
theorem rfix_all (w : World) (K : Nat → Prop) (v : Value) (S : Sp) (n : Int) (t : ByteArray) (h : RfAt w K v S) (hS : S.ok) (ht : t.size ≤ 65536) (hE : Env w) :
    Calls Tryd.prog 81 #[v, .int .i64 n, .string t] w fun e w' => ∃ v', e = .returned (.tuple #[v', .int .i64 (S.fix n t.data.toList).2]) ∧ RfAt w' (up K w) v' (S.fix n t.data.toList).1 ∧ Below w.heap.size w w' := by
  by_cases hn : n < 1 ∨ 8 < n
  · refine (rfix_range_any w K v S n t h hn).mono ?_
    rintro e w' ⟨rfl, hb⟩
    rw [fix_range hn]
    exact ⟨v, rfl, (h.below hb).weaken (fun k _ hk => Or.inl hk), hb⟩
  · obtain ⟨k, rfl⟩ : ∃ k : Nat, n = k := ⟨n.toNat, by omega⟩
    exact rfix_any w K v S k t h hS (by omega) (by omega) ht hE
set_option maxHeartbeats 8000000 in
set_option maxRecDepth 100000 in
theorem do_fix (w0 w : World) (b : Nat) (S : Sp) (F : Nat → Prop) (v : Value) (k : Nat) (n : Int) (t T : ByteArray) (h : Ow w0 w b S F) (hS : S.ok) (hR : RfAt w F v S) (hk : k % 10 = 4 ∨ k % 10 = 5) (hT : t.extract 0 (min (t.size : Int) 200).toNat = T) (hE : Env w0) :
    Calls Tryd.prog 46 #[ptr b, v, .agg #[.int .u8 k, .int .i64 n, .string t]] w (DoEnd w0 w b (S.fix n T.data.toList).1 F) := by
  have hTs : T.size ≤ 65536 := by rw [← hT]; exact Nat.le_trans (cut_size t 200) (by decide)
  have HT := Lib.hid hT
  clear hT
  obtain ⟨vo, vt, rfl, r1, r2, o1, o2⟩ := hR
  have M := Lib.hid (mid_start (cs := rc S.hold vo S.mark S.free vt S.brk) (x := #[.int .u8 k, .int .i64 n, .string t]) h ⟨vo, vt, rfl, r1, r2, o1, o2⟩)
  clear h r1 r2 o1 o2
  have hcase : (k : Int) % 10 = 4 ∨ (k : Int) % 10 = 5 := by omega
  rcases hcase with hq | hq
  all_goals
    go_enter Tryd.func46, Tryd.ntmps46
    go_wp2_with fail
    rw [HT.out]
    refine (M.out.sp (fun F' hO => fix_ow hO hS n T hTs hE)).mono ?_
    rintro e w1 ⟨rfl, M1⟩
    have M1 := Lib.hid M1
    clear M
    generalize hBw : w.heap.size = B at *
    clear hBw
    obtain ⟨q1, q2, q3⟩ := M1.out.boxes
    obtain ⟨c0, c1, c2, c3, c4, c5, cf, cl⟩ := blk_facts q1
    obtain ⟨z0, z1, z2, zf, zl⟩ := blk3 q2
    clear q1 q2 q3
    obtain ⟨Z, hZ⟩ : ∃ Z, (S.fix n T.data.toList).2 = Z := ⟨_, rfl⟩
    rw [hZ]
    have HZ := Lib.hid hZ
    clear hZ
    go_wp2_with fail
    refine (M1.out.rf_call (E := fun v' => .returned (.tuple #[v', .int .i64 Z])) (fun K hK => by have := rfix_all w1 K _ S n T hK hS hTs (hE.below M1.out.dn); rw [HZ.out] at this; exact this)).mono ?_
    rintro e w2 ⟨v', rfl, M2⟩
    have M2 := Lib.hid M2
    clear M1 c0 c1 c2 c3 c4 c5 cf cl HZ z0 z1 z2 zf zl
    generalize (S.fix n T.data.toList).1 = S2 at *
    obtain ⟨_, vo', vt', rfl, g1, g2, _, _⟩ := M2.out.rf
    obtain ⟨ao, co, rfl⟩ := g1.len
    obtain ⟨at4, ct4, rfl⟩ := g2.len
    clear g1 g2
    go_upto_region 15 with fail
    refine world_as (fun W => DoMid w0 w b F (rc S.hold vo S.mark S.free vt S.brk) #[.int .u8 k, .int .i64 n, .string t] B [] S2 (rv S2.hold (.slice ao S2.opn.length co) S2.mark S2.free (.slice at4 S2.tkn.length ct4) S2.brk) S2 W ∧
      W.heap[w2.heap.size]? = some (.cells (rc S2.hold (.slice ao S2.opn.length co) S2.mark S2.free (.slice at4 S2.tkn.length ct4) S2.brk) 67 (0, 0))) ⟨M2.out.below (below1 _ (Nat.le_refl _)), heap_alloc_new w2 _⟩ ?_
    rintro W ⟨M3, k1⟩
    have M3 := Lib.hid M3
    clear M2
    generalize hB2 : w2.heap.size = B2 at *
    clear hB2
    obtain ⟨q1, q2, q3⟩ := M3.out.boxes
    obtain ⟨c0, c1, c2, c3, c4, c5, cf, cl⟩ := blk_facts q3
    obtain ⟨d0, d1, d2, d3, d4, d5, df, dl⟩ := blk_facts k1
    clear q1 q2 q3 k1
    go_wp21
    refine post_as (fun WW => ∃ F', Ow w0 WW b S2 F' ∧ RfAt WW F' (rv S2.hold (.slice ao S2.opn.length co) S2.mark S2.free (.slice at4 S2.tkn.length ct4) S2.brk) S2 ∧ (∀ k, F k → F' k) ∧ Keep F w WW ∧
      WW.heap[B + 1 + 1]? = some (.cells (rc S2.hold (.slice ao S2.opn.length co) S2.mark S2.free (.slice at4 S2.tkn.length ct4) S2.brk) 67 (0, 0))) (M3.out.last _ _ _ _ _ _) ?_
    rintro WW ⟨F', e1, e2, e3, e4, e5⟩
    obtain ⟨s0, s1, s2, s3, s4, s5, _, _⟩ := blk_facts e5
    refine bodyPost_ret (v := .tuple #[rv S2.hold (.slice ao S2.opn.length co) S2.mark S2.free (.slice at4 S2.tkn.length ct4) S2.brk, .bool true]) (by simp [results, Tryd.results46, go_sem, s0, s1, s2, s3, s4, s5]) rfl ?_
    exact ⟨_, F', rfl, e1, e2, e3, e4⟩
set_option maxHeartbeats 8000000 in
set_option maxRecDepth 100000 in
theorem do_break (w0 w : World) (b : Nat) (S : Sp) (F : Nat → Prop) (v : Value) (k : Nat) (n : Int) (t : ByteArray) (h : Ow w0 w b S F) (hR : RfAt w F v S) (hk : k % 10 = 3) :
    Calls Tryd.prog 46 #[ptr b, v, .agg #[.int .u8 k, .int .i64 n, .string t]] w (DoEnd w0 w b ({ S with brk := true } : Sp) F) := by
  obtain ⟨vo, vt, rfl, r1, r2, o1, o2⟩ := hR
  have M := Lib.hid (mid_start (cs := rc S.hold vo S.mark S.free vt S.brk) (x := #[.int .u8 k, .int .i64 n, .string t]) h ⟨vo, vt, rfl, r1, r2, o1, o2⟩)
  clear h r1 r2 o1 o2
  have hq : (k : Int) % 10 = 3 := by omega
  go_enter Tryd.func46, Tryd.ntmps46
  go_wp2_with fail
  refine (M.out.rf_call (E := fun v' => .returned v') (S' := ({ S with brk := true } : Sp)) (fun K hK => (rbreak_any _ K _ S hK).mono (by rintro e w' ⟨v', rfl, hR, hb⟩; exact ⟨v', rfl, hR.weaken (fun k _ hk => Or.inl hk), hb⟩))).mono ?_
  rintro e w1 ⟨v', rfl, M1⟩
  have M1 := Lib.hid M1
  clear M
  generalize hBw : w.heap.size = B at *
  clear hBw
  go_wp2_with fail
  refine (M1.out.sp (fun F' hO => break_ow hO)).mono ?_
  rintro e w2 ⟨rfl, M2⟩
  have M2 := Lib.hid M2
  clear M1
  generalize (({ S with brk := true } : Sp)) = S2 at *
  obtain ⟨_, vo', vt', rfl, g1, g2, _, _⟩ := M2.out.rf
  obtain ⟨ao, co, rfl⟩ := g1.len
  obtain ⟨at4, ct4, rfl⟩ := g2.len
  clear g1 g2
  obtain ⟨q1, q2, q3⟩ := M2.out.boxes
  obtain ⟨c0, c1, c2, c3, c4, c5, cf, cl⟩ := blk_facts q3
  clear q1 q2 q3
  go_wp21
  refine post_as (fun WW => ∃ F', Ow w0 WW b S2 F' ∧ RfAt WW F' (rv S2.hold (.slice ao S2.opn.length co) S2.mark S2.free (.slice at4 S2.tkn.length ct4) S2.brk) S2 ∧ (∀ k, F k → F' k) ∧ Keep F w WW ∧
    WW.heap[B + 1 + 1]? = some (.cells (rc S2.hold (.slice ao S2.opn.length co) S2.mark S2.free (.slice at4 S2.tkn.length ct4) S2.brk) 67 (0, 0))) (M2.out.last _ _ _ _ _ _) ?_
  rintro WW ⟨F', e1, e2, e3, e4, e5⟩
  obtain ⟨s0, s1, s2, s3, s4, s5, _, _⟩ := blk_facts e5
  refine bodyPost_ret (v := .tuple #[rv S2.hold (.slice ao S2.opn.length co) S2.mark S2.free (.slice at4 S2.tkn.length ct4) S2.brk, .bool true]) (by simp [results, Tryd.results46, go_sem, s0, s1, s2, s3, s4, s5]) rfl ?_
  exact ⟨_, F', rfl, e1, e2, e3, e4⟩
set_option maxHeartbeats 8000000 in
set_option maxRecDepth 100000 in
theorem do_flush (w0 w : World) (b : Nat) (S : Sp) (F : Nat → Prop) (v : Value) (k : Nat) (n : Int) (t : ByteArray) (h : Ow w0 w b S F) (hR : RfAt w F v S) (hk : k % 10 = 6) :
    Calls Tryd.prog 46 #[ptr b, v, .agg #[.int .u8 k, .int .i64 n, .string t]] w (DoEnd w0 w b ({ S with free := S.opn.length } : Sp) F) := by
  obtain ⟨vo, vt, rfl, r1, r2, o1, o2⟩ := hR
  have M := Lib.hid (mid_start (cs := rc S.hold vo S.mark S.free vt S.brk) (x := #[.int .u8 k, .int .i64 n, .string t]) h ⟨vo, vt, rfl, r1, r2, o1, o2⟩)
  clear h r1 r2 o1 o2
  have hq : (k : Int) % 10 = 6 := by omega
  go_enter Tryd.func46, Tryd.ntmps46
  go_wp2_with fail
  refine (M.out.rf_call (E := fun v' => .returned v') (S' := ({ S with free := S.opn.length } : Sp)) (fun K hK => (rflush_any _ K _ S hK).mono (by rintro e w' ⟨v', rfl, hR, hb⟩; exact ⟨v', rfl, hR.weaken (fun k _ hk => Or.inl hk), hb⟩))).mono ?_
  rintro e w1 ⟨v', rfl, M1⟩
  have M1 := Lib.hid M1
  clear M
  generalize hBw : w.heap.size = B at *
  clear hBw
  go_wp2_with fail
  refine (M1.out.sp (fun F' hO => flush_ow hO)).mono ?_
  rintro e w2 ⟨rfl, M2⟩
  have M2 := Lib.hid M2
  clear M1
  generalize (({ S with free := S.opn.length } : Sp)) = S2 at *
  obtain ⟨_, vo', vt', rfl, g1, g2, _, _⟩ := M2.out.rf
  obtain ⟨ao, co, rfl⟩ := g1.len
  obtain ⟨at4, ct4, rfl⟩ := g2.len
  clear g1 g2
  obtain ⟨q1, q2, q3⟩ := M2.out.boxes
  obtain ⟨c0, c1, c2, c3, c4, c5, cf, cl⟩ := blk_facts q3
  clear q1 q2 q3
  go_wp21
  refine post_as (fun WW => ∃ F', Ow w0 WW b S2 F' ∧ RfAt WW F' (rv S2.hold (.slice ao S2.opn.length co) S2.mark S2.free (.slice at4 S2.tkn.length ct4) S2.brk) S2 ∧ (∀ k, F k → F' k) ∧ Keep F w WW ∧
    WW.heap[B + 1 + 1]? = some (.cells (rc S2.hold (.slice ao S2.opn.length co) S2.mark S2.free (.slice at4 S2.tkn.length ct4) S2.brk) 67 (0, 0))) (M2.out.last _ _ _ _ _ _) ?_
  rintro WW ⟨F', e1, e2, e3, e4, e5⟩
  obtain ⟨s0, s1, s2, s3, s4, s5, _, _⟩ := blk_facts e5
  refine bodyPost_ret (v := .tuple #[rv S2.hold (.slice ao S2.opn.length co) S2.mark S2.free (.slice at4 S2.tkn.length ct4) S2.brk, .bool true]) (by simp [results, Tryd.results46, go_sem, s0, s1, s2, s3, s4, s5]) rfl ?_
  exact ⟨_, F', rfl, e1, e2, e3, e4⟩
end Go.Proofs.YtheemefggkcfbaaDoor
namespace Go.Proofs.YtheemefggkcfbaaDoor
open Go Go.Lib Go.RowKit Go.Shelf
theorem RfAt.drew {w : World} {K : Nat → Prop} {v : Value} {S : Sp} (h : RfAt w K v S) : RfAt w.drew K v S := by
  obtain ⟨vo, vt, e, r1, r2, o1, o2⟩ := h
  exact ⟨vo, vt, e, r1.drew, r2.drew, o1, o2⟩
theorem Keep.drew {F : Nat → Prop} {w w' : World} (h : Keep F w w') : Keep F w w'.drew := ⟨h.size, h.block⟩
theorem DoMid.lastD {w0 w wx : World} {b B : Nat} {L : List (Nat × Obj)} {S1 S2 : Sp} {F : Nat → Prop} {cs x : Array Value} {v : Value} (h : DoMid w0 w b F cs x B L S1 v S2 wx) (x0 x1 x2 x3 x4 x5 : Value) :
    ∃ F', Ow w0 ((((((wx.setCell ⟨B + 1 + 1, 0, none⟩ x0).setCell ⟨B + 1 + 1, 1, none⟩ x1).setCell ⟨B + 1 + 1, 2, none⟩ x2).setCell ⟨B + 1 + 1, 3, none⟩ x3).setCell ⟨B + 1 + 1, 4, none⟩ x4).setCell ⟨B + 1 + 1, 5, none⟩ x5).drew b S1 F' ∧
      RfAt ((((((wx.setCell ⟨B + 1 + 1, 0, none⟩ x0).setCell ⟨B + 1 + 1, 1, none⟩ x1).setCell ⟨B + 1 + 1, 2, none⟩ x2).setCell ⟨B + 1 + 1, 3, none⟩ x3).setCell ⟨B + 1 + 1, 4, none⟩ x4).setCell ⟨B + 1 + 1, 5, none⟩ x5).drew F' v S2 ∧
      (∀ k, F k → F' k) ∧ Keep F w ((((((wx.setCell ⟨B + 1 + 1, 0, none⟩ x0).setCell ⟨B + 1 + 1, 1, none⟩ x1).setCell ⟨B + 1 + 1, 2, none⟩ x2).setCell ⟨B + 1 + 1, 3, none⟩ x3).setCell ⟨B + 1 + 1, 4, none⟩ x4).setCell ⟨B + 1 + 1, 5, none⟩ x5).drew ∧
      ((((((wx.setCell ⟨B + 1 + 1, 0, none⟩ x0).setCell ⟨B + 1 + 1, 1, none⟩ x1).setCell ⟨B + 1 + 1, 2, none⟩ x2).setCell ⟨B + 1 + 1, 3, none⟩ x3).setCell ⟨B + 1 + 1, 4, none⟩ x4).setCell ⟨B + 1 + 1, 5, none⟩ x5).drew.heap[B + 1 + 1]? = some (.cells #[x0, x1, x2, x3, x4, x5] 67 (0, 0)) := by
  have hl := h.last x0 x1 x2 x3 x4 x5
  generalize ((((((wx.setCell ⟨B + 1 + 1, 0, none⟩ x0).setCell ⟨B + 1 + 1, 1, none⟩ x1).setCell ⟨B + 1 + 1, 2, none⟩ x2).setCell ⟨B + 1 + 1, 3, none⟩ x3).setCell ⟨B + 1 + 1, 4, none⟩ x4).setCell ⟨B + 1 + 1, 5, none⟩ x5) = WW at *
  obtain ⟨F', e1, e2, e3, e4, e5⟩ := hl
  exact ⟨F', e1.drew, e2.drew, e3, e4.drew, e5⟩
theorem far6 {w : World} {k j o : Nat} {a x0 x1 x2 x3 x4 x5 : Value} (h : w.cell? ⟨j, o, none⟩ = some a) (hne : k ≠ j) : ((((((w.setCell ⟨k, 0, none⟩ x0).setCell ⟨k, 1, none⟩ x1).setCell ⟨k, 2, none⟩ x2).setCell ⟨k, 3, none⟩ x3).setCell ⟨k, 4, none⟩ x4).setCell ⟨k, 5, none⟩ x5).cell? ⟨j, o, none⟩ = some a := by
  rw [World.cell?_setCell_far _ _ _ _ hne, World.cell?_setCell_far _ _ _ _ hne, World.cell?_setCell_far _ _ _ _ hne, World.cell?_setCell_far _ _ _ _ hne, World.cell?_setCell_far _ _ _ _ hne, World.cell?_setCell_far _ _ _ _ hne]
  exact h
theorem far6d {w : World} {k j o : Nat} {a x0 x1 x2 x3 x4 x5 : Value} (h : w.cell? ⟨j, o, none⟩ = some a) (hne : k ≠ j) : ((((((w.setCell ⟨k, 0, none⟩ x0).setCell ⟨k, 1, none⟩ x1).setCell ⟨k, 2, none⟩ x2).setCell ⟨k, 3, none⟩ x3).setCell ⟨k, 4, none⟩ x4).setCell ⟨k, 5, none⟩ x5).drew.cell? ⟨j, o, none⟩ = some a := by
  rw [World.cell?_drew]
  exact far6 h hne
set_option maxHeartbeats 8000000 in
set_option maxRecDepth 100000 in
theorem do_take (w0 w : World) (b : Nat) (S : Sp) (F : Nat → Prop) (v : Value) (k : Nat) (n : Int) (t : ByteArray) (h : Ow w0 w b S F) (hS : S.ok) (hR : RfAt w F v S) (hk : 6 < k % 10) :
    Calls Tryd.prog 46 #[ptr b, v, .agg #[.int .u8 k, .int .i64 n, .string t]] w (DoEnd w0 w b S.take F) := by
  obtain ⟨vo, vt, rfl, r1, r2, o1, o2⟩ := hR
  have M := Lib.hid (mid_start (cs := rc S.hold vo S.mark S.free vt S.brk) (x := #[.int .u8 k, .int .i64 n, .string t]) h ⟨vo, vt, rfl, r1, r2, o1, o2⟩)
  clear h r1 r2 o1 o2
  have hb0 : ((k : Int) % 10 == 0) = false := by simp; omega
  have hb1 : ((k : Int) % 10 == 1) = false := by simp; omega
  have hb2 : ((k : Int) % 10 == 2) = false := by simp; omega
  have hb3 : ((k : Int) % 10 == 3) = false := by simp; omega
  have hb4 : ((k : Int) % 10 == 4) = false := by simp; omega
  have hb5 : ((k : Int) % 10 == 5) = false := by simp; omega
  have hb6 : ((k : Int) % 10 == 6) = false := by simp; omega
  have hok := take_ok hS
  go_enter Tryd.func46, Tryd.ntmps46
  go_wp2_with fail
  obtain ⟨FM, hOM⟩ : ∃ F', Ow w0 _ b S F' := ⟨_, M.out.choose_spec.1⟩
  refine (peek_ow hOM hS).mono ?_
  rintro e w1 ⟨rfl, _, hb1'⟩
  have M1 := Lib.hid (M.out.below hb1')
  clear M hOM hb1' hb0 hb1 hb2 hb3 hb4 hb5 hb6
  generalize hBw : w.heap.size = B at *
  clear hBw
  obtain ⟨X, hX⟩ : ∃ X, S.peek = X := ⟨_, rfl⟩
  obtain ⟨C, hC⟩ : ∃ C, S.can = C := ⟨_, rfl⟩
  have HX := Lib.hid (And.intro hX hC)
  rw [hX, hC, spkV_ba]
  clear hX hC
  go_wp2_with fail
  have M2 := Lib.hid (M1.out.box #[.string (ba X.1), .bool X.2.1, .bool X.2.2] 59)
  clear M1
  refine (M2.out.sp (fun F' hO => take_ow hO hS)).mono ?_
  rintro e w2 ⟨rfl, M3⟩
  have M3 := Lib.hid M3
  clear M2
  rw [HX.out.1, HX.out.2, spkV_ba]
  have n3 : B + 1 + 1 ≠ w1.heap.size := by
    have h1 := M3.out.more (w1.heap.size, .cells #[.string (ba X.1), .bool X.2.1, .bool X.2.2] 59 (0, 0)) (by simp)
    intro e
    have h2 := M3.out.boxes.2.2
    rw [e] at h2
    have h3 := h1.symm.trans h2
    injection h3 with h3
    injection h3 with _ h3 _
    cases h3
  generalize hB3 : w1.heap.size = B3 at *
  clear hB3
  go_upto_region 20 with fail
  refine world_as (fun W => DoMid w0 w b F (rc S.hold vo S.mark S.free vt S.brk) #[.int .u8 k, .int .i64 n, .string t] B [(w2.heap.size, .cells #[.string (ba X.1), .bool X.2.1, .bool X.2.2] 59 (0, 0)), (B3, .cells #[.string (ba X.1), .bool X.2.1, .bool X.2.2] 59 (0, 0))] S.take (rv S.hold vo S.mark S.free vt S.brk) S W) (M3.out.box _ 59) ?_
  intro W M4
  have M4 := Lib.hid M4
  clear M3
  have n4 : B + 1 + 1 ≠ w2.heap.size := by
    have h1 := M4.out.more (w2.heap.size, .cells #[.string (ba X.1), .bool X.2.1, .bool X.2.2] 59 (0, 0)) (by simp)
    intro e
    have h2 := M4.out.boxes.2.2
    rw [e] at h2
    have h3 := h1.symm.trans h2
    injection h3 with h3
    injection h3 with _ h3 _
    cases h3
  generalize hB4 : w2.heap.size = B4 at *
  clear hB4
  obtain ⟨q1, q2, q3⟩ := M4.out.boxes
  obtain ⟨c0, c1, c2, c3, c4, c5, cf, cl⟩ := blk_facts q1
  clear q1 q2 q3
  go_wp2_with fail
  refine (M4.out.rf_call (E := fun v' => .returned (.tuple #[v', spkV S.peek, .bool S.can])) (fun K hK => rtake_any W K _ S hK hS)).mono ?_
  rintro e w3 ⟨v', rfl, M5⟩
  have M5 := Lib.hid M5
  clear M4 c0 c1 c2 c3 c4 c5 cf cl
  rw [HX.out.1, HX.out.2, spkV_ba]
  clear HX hS
  generalize S.take = S2 at *
  obtain ⟨_, vo', vt', rfl, g1, g2, _, _⟩ := M5.out.rf
  obtain ⟨ao, co, rfl⟩ := g1.len
  obtain ⟨at4, ct4, rfl⟩ := g2.len
  clear g1 g2
  go_upto_region 21 with fail
  refine world_as (fun W => DoMid w0 w b F (rc S.hold vo S.mark S.free vt S.brk) #[.int .u8 k, .int .i64 n, .string t] B [(w3.heap.size + 1, .cells #[.string (ba X.1), .bool X.2.1, .bool X.2.2] 59 (0, 0)), (w3.heap.size, .cells (rc S2.hold (.slice ao S2.opn.length co) S2.mark S2.free (.slice at4 S2.tkn.length ct4) S2.brk) 67 (0, 0)), (B4, .cells #[.string (ba X.1), .bool X.2.1, .bool X.2.2] 59 (0, 0)), (B3, .cells #[.string (ba X.1), .bool X.2.1, .bool X.2.2] 59 (0, 0))] S2 (rv S2.hold (.slice ao S2.opn.length co) S2.mark S2.free (.slice at4 S2.tkn.length ct4) S2.brk) S2 W)
    (by have := (M5.out.box (rc S2.hold (.slice ao S2.opn.length co) S2.mark S2.free (.slice at4 S2.tkn.length ct4) S2.brk) 67).box #[.string (ba X.1), .bool X.2.1, .bool X.2.2] 59; simpa using this) ?_
  intro W2 M6
  have n5 : B + 1 + 1 ≠ w3.heap.size := by have := heap_lt M5.out.boxes.2.2; omega
  have n6 : B + 1 + 1 ≠ w3.heap.size + 1 := by have := heap_lt M5.out.boxes.2.2; omega
  have M6 := Lib.hid M6
  clear M5
  generalize w3.heap.size = B5 at *
  obtain ⟨_, _, q3⟩ := M6.out.boxes
  have m1 : W2.heap[B5 + 1]? = some (.cells #[.string (ba X.1), .bool X.2.1, .bool X.2.2] 59 (0, 0)) := M6.out.more (B5 + 1, .cells #[.string (ba X.1), .bool X.2.1, .bool X.2.2] 59 (0, 0)) (by simp)
  have m2 : W2.heap[B5]? = some (.cells (rc S2.hold (.slice ao S2.opn.length co) S2.mark S2.free (.slice at4 S2.tkn.length ct4) S2.brk) 67 (0, 0)) := M6.out.more (B5, .cells (rc S2.hold (.slice ao S2.opn.length co) S2.mark S2.free (.slice at4 S2.tkn.length ct4) S2.brk) 67 (0, 0)) (by simp)
  have m3 : W2.heap[B4]? = some (.cells #[.string (ba X.1), .bool X.2.1, .bool X.2.2] 59 (0, 0)) := M6.out.more (B4, .cells #[.string (ba X.1), .bool X.2.1, .bool X.2.2] 59 (0, 0)) (by simp)
  have m4 : W2.heap[B3]? = some (.cells #[.string (ba X.1), .bool X.2.1, .bool X.2.2] 59 (0, 0)) := M6.out.more (B3, .cells #[.string (ba X.1), .bool X.2.1, .bool X.2.2] 59 (0, 0)) (by simp)
  obtain ⟨c0, c1, c2, c3, c4, c5, cf, cl⟩ := blk_facts q3
  obtain ⟨d0, d1, d2, d3, d4, d5, df, dl⟩ := blk_facts m2
  obtain ⟨x0, x1, x2, xf, xl⟩ := blk3 m1
  obtain ⟨y0, y1, y2, yf, yl⟩ := blk3 m3
  obtain ⟨z0, z1, z2, zf, zl⟩ := blk3 m4
  clear q3 m1 m2 m3 m4
  refine wp_region_tail 21 (S := (fun w' => w'.cell? ⟨B5, 0, none⟩ = some (.int .i64 S2.hold) ∧ w'.cell? ⟨B5, 1, none⟩ = some (.slice ao S2.opn.length co) ∧ w'.cell? ⟨B5, 2, none⟩ = some (.bool S2.mark) ∧ w'.cell? ⟨B5, 3, none⟩ = some (.int .i64 S2.free) ∧ w'.cell? ⟨B5, 4, none⟩ = some (.slice at4 S2.tkn.length ct4) ∧ w'.cell? ⟨B5, 5, none⟩ = some (.bool S2.brk) ∧ w'.cell? ⟨B5 + 1, 0, none⟩ = some (.string (ba X.1)) ∧ w'.cell? ⟨B5 + 1, 1, none⟩ = some (.bool X.2.1) ∧ w'.cell? ⟨B5 + 1, 2, none⟩ = some (.bool X.2.2) ∧ w'.cell? ⟨B4, 0, none⟩ = some (.string (ba X.1)) ∧ w'.cell? ⟨B4, 1, none⟩ = some (.bool X.2.1) ∧ w'.cell? ⟨B4, 2, none⟩ = some (.bool X.2.2) ∧ w'.cell? ⟨B3, 0, none⟩ = some (.string (ba X.1)) ∧ w'.cell? ⟨B3, 1, none⟩ = some (.bool X.2.1) ∧ w'.cell? ⟨B3, 2, none⟩ = some (.bool X.2.2))) (by kernel_rfl) ⟨d0, d1, d2, d3, d4, d5, x0, x1, x2, y0, y1, y2, z0, z1, z2⟩ (fun hHeld => ?_)
  simp only [List.size_toArray, List.length_cons, List.length_nil, Nat.zero_add, Nat.reduceAdd]
  refine wpAnyT_take (i := 0) (oi := { dst := some 99, op := Go.Op.load 67 (Go.Operand.tmp 19), type := 67, pos := "law.go:91", after := #[], guard := none }) (v := ?_) rfl (by kernel_rfl) (by kernel_rfl) (by kernel_rfl) (by kernel_rfl) (fun _ _ _ h => h) (Or.inl ⟨by rfl, ?_⟩) (by assumption) ?_
  rotate_left
  · intro w hSw
    (try dsimp only at hSw)
    go_simp
    all_goals (with_reducible rfl)
  try simp only [Act.put, List.setIfInBounds_toArray, List.set_cons_zero, List.set_cons_succ]
  refine wpAnyT_take (i := 1) (oi := { dst := some 100, op := Go.Op.load 59 (Go.Operand.tmp 15), type := 59, pos := "law.go:91", after := #[], guard := none }) (v := ?_) rfl (by kernel_rfl) (by kernel_rfl) (by kernel_rfl) (by kernel_rfl) (fun _ _ _ h => h) (Or.inl ⟨by rfl, ?_⟩) (by assumption) ?_
  rotate_left
  · intro w hSw
    (try dsimp only at hSw)
    go_simp
    all_goals (with_reducible rfl)
  try simp only [Act.put, List.setIfInBounds_toArray, List.set_cons_zero, List.set_cons_succ]
  refine wpAnyT_take (i := 2) (oi := { dst := some 101, op := Go.Op.load 59 (Go.Operand.tmp 20), type := 59, pos := "law.go:91", after := #[], guard := none }) (v := ?_) rfl (by kernel_rfl) (by kernel_rfl) (by kernel_rfl) (by kernel_rfl) (fun _ _ _ h => h) (Or.inl ⟨by rfl, ?_⟩) (by assumption) ?_
  rotate_left
  · intro w hSw
    (try dsimp only at hSw)
    go_simp
    all_goals (with_reducible rfl)
  try simp only [Act.put, List.setIfInBounds_toArray, List.set_cons_zero, List.set_cons_succ]
  refine wpAnyT_take (i := 3) (oi := { dst := some 102, op := Go.Op.binOp Go.BinOp.eql 59 (Go.Operand.tmp 100) (Go.Operand.tmp 101) 59, type := 4, pos := "law.go:91", after := #[{ on := 1, ground := Go.Ground.data }, { on := 2, ground := Go.Ground.data }], guard := none }) (v := ?_) rfl (by kernel_rfl) (by kernel_rfl) (by kernel_rfl) (by kernel_rfl) (fun _ _ _ h => h) (Or.inl ⟨by rfl, ?_⟩) (by assumption) ?_
  rotate_left
  · intro w hSw
    (try dsimp only at hSw)
    go_simp
    all_goals (with_reducible rfl)
  try simp only [Act.put, List.setIfInBounds_toArray, List.set_cons_zero, List.set_cons_succ]
  refine wpAnyT_take (i := 4) (oi := { dst := some 103, op := Go.Op.move (Go.Operand.tmp 102), type := 4, pos := "law.go:91", after := #[{ on := 3, ground := Go.Ground.data }], guard := none }) (v := ?_) rfl (by kernel_rfl) (by kernel_rfl) (by kernel_rfl) (by kernel_rfl) (fun _ _ _ h => h) (Or.inl ⟨by rfl, ?_⟩) (by assumption) ?_
  rotate_left
  · intro w hSw
    (try dsimp only at hSw)
    go_simp
    all_goals (with_reducible rfl)
  try simp only [Act.put, List.setIfInBounds_toArray, List.set_cons_zero, List.set_cons_succ]
  refine wpAnyT_take (i := 5) (oi := { dst := some 104, op := Go.Op.load 59 (Go.Operand.tmp 17), type := 59, pos := "law.go:91", after := #[{ on := 4, ground := Go.Ground.guard }], guard := some (4, true) }) (v := ?_) rfl (by kernel_rfl) (by kernel_rfl) (by kernel_rfl) (by kernel_rfl) (fun _ _ _ h => h) (Or.inl ⟨by rfl, ?_⟩) (by assumption) ?_
  rotate_left
  · intro w hSw
    (try dsimp only at hSw)
    go_simp
    all_goals (with_reducible rfl)
  try simp only [Act.put, List.setIfInBounds_toArray, List.set_cons_zero, List.set_cons_succ]
  refine wpAnyT_take (i := 6) (oi := { dst := some 105, op := Go.Op.load 59 (Go.Operand.tmp 20), type := 59, pos := "law.go:91", after := #[{ on := 4, ground := Go.Ground.guard }], guard := some (4, true) }) (v := ?_) rfl (by kernel_rfl) (by kernel_rfl) (by kernel_rfl) (by kernel_rfl) (fun _ _ _ h => h) (Or.inl ⟨by rfl, ?_⟩) (by assumption) ?_
  rotate_left
  · intro w hSw
    (try dsimp only at hSw)
    go_simp
    all_goals (with_reducible rfl)
  try simp only [Act.put, List.setIfInBounds_toArray, List.set_cons_zero, List.set_cons_succ]
  refine wpAnyT_take (i := 7) (oi := { dst := some 106, op := Go.Op.binOp Go.BinOp.eql 59 (Go.Operand.tmp 104) (Go.Operand.tmp 105) 59, type := 4, pos := "law.go:91", after := #[{ on := 5, ground := Go.Ground.data }, { on := 6, ground := Go.Ground.data }, { on := 4, ground := Go.Ground.guard }], guard := some (4, true) }) (v := ?_) rfl (by kernel_rfl) (by kernel_rfl) (by kernel_rfl) (by kernel_rfl) (fun _ _ _ h => h) (Or.inl ⟨by rfl, ?_⟩) (by assumption) ?_
  rotate_left
  · intro w hSw
    (try dsimp only at hSw)
    go_simp
    all_goals (with_reducible rfl)
  try simp only [Act.put, List.setIfInBounds_toArray, List.set_cons_zero, List.set_cons_succ]
  refine wpAnyT_take (i := 8) (oi := { dst := some 107, op := Go.Op.pick (Go.Operand.tmp 103) (Go.Operand.tmp 106) (Go.Operand.const (Go.Value.bool false)), type := 4, pos := "law.go:91", after := #[{ on := 4, ground := Go.Ground.data }, { on := 7, ground := Go.Ground.data }], guard := none }) (v := ?_) rfl (by kernel_rfl) (by kernel_rfl) (by kernel_rfl) (by kernel_rfl) (fun _ _ _ h => h) (Or.inl ⟨by rfl, ?_⟩) (by assumption) ?_
  rotate_left
  · intro w hSw
    (try dsimp only at hSw)
    go_simp
    all_goals (with_reducible rfl)
  try simp only [Act.put, List.setIfInBounds_toArray, List.set_cons_zero, List.set_cons_succ]
  refine wpAnyT_take (i := 9) (oi := { dst := some 108, op := Go.Op.move (Go.Operand.tmp 107), type := 4, pos := "law.go:91", after := #[{ on := 8, ground := Go.Ground.data }, { on := 4, ground := Go.Ground.chain }], guard := none }) (v := ?_) rfl (by kernel_rfl) (by kernel_rfl) (by kernel_rfl) (by kernel_rfl) (fun _ _ _ h => h) (Or.inl ⟨by rfl, ?_⟩) (by assumption) ?_
  rotate_left
  · intro w hSw
    (try dsimp only at hSw)
    go_simp
    all_goals (with_reducible rfl)
  try simp only [Act.put, List.setIfInBounds_toArray, List.set_cons_zero, List.set_cons_succ]
  refine wpAnyT_take (i := 10) (oi := { dst := some 109, op := Go.Op.move (Go.Operand.tmp 16), type := 4, pos := "law.go:91", after := #[{ on := 9, ground := Go.Ground.guard }], guard := some (9, true) }) (v := ?_) rfl (by kernel_rfl) (by kernel_rfl) (by kernel_rfl) (by kernel_rfl) (fun _ _ _ h => h) (Or.inl ⟨by rfl, ?_⟩) (by assumption) ?_
  rotate_left
  · intro w hSw
    (try dsimp only at hSw)
    go_simp
    all_goals (with_reducible rfl)
  try simp only [Act.put, List.setIfInBounds_toArray, List.set_cons_zero, List.set_cons_succ]
  refine wpAnyT_take (i := 11) (oi := { dst := some 110, op := Go.Op.move (Go.Operand.tmp 21), type := 4, pos := "law.go:91", after := #[{ on := 9, ground := Go.Ground.guard }], guard := some (9, true) }) (v := ?_) rfl (by kernel_rfl) (by kernel_rfl) (by kernel_rfl) (by kernel_rfl) (fun _ _ _ h => h) (Or.inl ⟨by rfl, ?_⟩) (by assumption) ?_
  rotate_left
  · intro w hSw
    (try dsimp only at hSw)
    go_simp
    all_goals (with_reducible rfl)
  try simp only [Act.put, List.setIfInBounds_toArray, List.set_cons_zero, List.set_cons_succ]
  refine wpAnyT_take (i := 12) (oi := { dst := some 111, op := Go.Op.binOp Go.BinOp.eql 4 (Go.Operand.tmp 109) (Go.Operand.tmp 110) 4, type := 4, pos := "law.go:91", after := #[{ on := 10, ground := Go.Ground.data }, { on := 11, ground := Go.Ground.data }, { on := 9, ground := Go.Ground.guard }], guard := some (9, true) }) (v := ?_) rfl (by kernel_rfl) (by kernel_rfl) (by kernel_rfl) (by kernel_rfl) (fun _ _ _ h => h) (Or.inl ⟨by rfl, ?_⟩) (by assumption) ?_
  rotate_left
  · intro w hSw
    (try dsimp only at hSw)
    go_simp
    all_goals (with_reducible rfl)
  try simp only [Act.put, List.setIfInBounds_toArray, List.set_cons_zero, List.set_cons_succ]
  refine wpAnyT_take (i := 13) (oi := { dst := some 112, op := Go.Op.pick (Go.Operand.tmp 108) (Go.Operand.tmp 111) (Go.Operand.const (Go.Value.bool false)), type := 4, pos := "law.go:91", after := #[{ on := 9, ground := Go.Ground.data }, { on := 12, ground := Go.Ground.data }], guard := none }) (v := ?_) rfl (by kernel_rfl) (by kernel_rfl) (by kernel_rfl) (by kernel_rfl) (fun _ _ _ h => h) (Or.inl ⟨by rfl, ?_⟩) (by assumption) ?_
  rotate_left
  · intro w hSw
    (try dsimp only at hSw)
    go_simp
    all_goals (with_reducible rfl)
  try simp only [Act.put, List.setIfInBounds_toArray, List.set_cons_zero, List.set_cons_succ]
  refine wpAnyT_take (i := 14) (oi := { dst := some 113, op := Go.Op.move (Go.Operand.tmp 112), type := 4, pos := "law.go:91", after := #[{ on := 13, ground := Go.Ground.data }, { on := 9, ground := Go.Ground.chain }], guard := none }) (v := ?_) rfl (by kernel_rfl) (by kernel_rfl) (by kernel_rfl) (by kernel_rfl) (fun _ _ _ h => h) (Or.inl ⟨by rfl, ?_⟩) (by assumption) ?_
  rotate_left
  · intro w hSw
    (try dsimp only at hSw)
    go_simp
    all_goals (with_reducible rfl)
  try simp only [Act.put, List.setIfInBounds_toArray, List.set_cons_zero, List.set_cons_succ]
  refine wpAnyT_take (i := 15) (oi := { dst := some 114, op := Go.Op.move (Go.Operand.tmp 18), type := 4, pos := "law.go:91", after := #[{ on := 14, ground := Go.Ground.guard }, { on := 19, ground := Go.Ground.gcOnly Go.Departure.lateStores }], guard := some (14, true) }) (v := ?_) rfl (by kernel_rfl) (by kernel_rfl) (by kernel_rfl) (by kernel_rfl) (fun _ _ _ h => h) (Or.inl ⟨by rfl, ?_⟩) (by assumption) ?_
  rotate_left
  · intro w hSw
    (try dsimp only at hSw)
    go_simp
    all_goals (with_reducible rfl)
  try simp only [Act.put, List.setIfInBounds_toArray, List.set_cons_zero, List.set_cons_succ]
  refine wpAnyT_take (i := 16) (oi := { dst := some 115, op := Go.Op.move (Go.Operand.tmp 21), type := 4, pos := "law.go:91", after := #[{ on := 14, ground := Go.Ground.guard }, { on := 19, ground := Go.Ground.gcOnly Go.Departure.lateStores }], guard := some (14, true) }) (v := ?_) rfl (by kernel_rfl) (by kernel_rfl) (by kernel_rfl) (by kernel_rfl) (fun _ _ _ h => h) (Or.inl ⟨by rfl, ?_⟩) (by assumption) ?_
  rotate_left
  · intro w hSw
    (try dsimp only at hSw)
    go_simp
    all_goals (with_reducible rfl)
  try simp only [Act.put, List.setIfInBounds_toArray, List.set_cons_zero, List.set_cons_succ]
  refine wpAnyT_take (i := 17) (oi := { dst := some 116, op := Go.Op.binOp Go.BinOp.eql 4 (Go.Operand.tmp 114) (Go.Operand.tmp 115) 4, type := 4, pos := "law.go:91", after := #[{ on := 15, ground := Go.Ground.data }, { on := 16, ground := Go.Ground.data }, { on := 14, ground := Go.Ground.guard }, { on := 19, ground := Go.Ground.gcOnly Go.Departure.lateStores }], guard := some (14, true) }) (v := ?_) rfl (by kernel_rfl) (by kernel_rfl) (by kernel_rfl) (by kernel_rfl) (fun _ _ _ h => h) (Or.inl ⟨by rfl, ?_⟩) (by assumption) ?_
  rotate_left
  · intro w hSw
    (try dsimp only at hSw)
    go_simp
    all_goals (with_reducible rfl)
  try simp only [Act.put, List.setIfInBounds_toArray, List.set_cons_zero, List.set_cons_succ]
  refine wpAnyT_take (i := 18) (oi := { dst := some 117, op := Go.Op.pick (Go.Operand.tmp 113) (Go.Operand.tmp 116) (Go.Operand.const (Go.Value.bool false)), type := 4, pos := "law.go:91", after := #[{ on := 14, ground := Go.Ground.data }, { on := 17, ground := Go.Ground.data }, { on := 19, ground := Go.Ground.gcOnly Go.Departure.lateStores }], guard := none }) (v := ?_) rfl (by kernel_rfl) (by kernel_rfl) (by kernel_rfl) (by kernel_rfl) (fun _ _ _ h => h) (Or.inl ⟨by rfl, ?_⟩) (by assumption) ?_
  rotate_left
  · intro w hSw
    (try dsimp only at hSw)
    go_simp
    all_goals (with_reducible rfl)
  try simp only [Act.put, List.setIfInBounds_toArray, List.set_cons_zero, List.set_cons_succ]
  refine wpAnyT_one (i := 19) (o := { dst := none, op := Go.Op.store 67 (Go.Operand.tmp 6) (Go.Operand.tmp 99), type := 0, pos := "law.go:91", after := #[{ on := 0, ground := Go.Ground.data }, { on := 14, ground := Go.Ground.chain }, { on := 0, ground := Go.Ground.phase }, { on := 1, ground := Go.Ground.textOnly Go.Departure.lateStores }, { on := 2, ground := Go.Ground.textOnly Go.Departure.lateStores }, { on := 3, ground := Go.Ground.textOnly Go.Departure.lateStores }, { on := 4, ground := Go.Ground.textOnly Go.Departure.lateStores }, { on := 5, ground := Go.Ground.textOnly Go.Departure.lateStores }, { on := 6, ground := Go.Ground.textOnly Go.Departure.lateStores }, { on := 7, ground := Go.Ground.textOnly Go.Departure.lateStores }, { on := 8, ground := Go.Ground.textOnly Go.Departure.lateStores }, { on := 9, ground := Go.Ground.textOnly Go.Departure.lateStores }, { on := 10, ground := Go.Ground.textOnly Go.Departure.lateStores }, { on := 11, ground := Go.Ground.textOnly Go.Departure.lateStores }, { on := 12, ground := Go.Ground.textOnly Go.Departure.lateStores }, { on := 13, ground := Go.Ground.textOnly Go.Departure.lateStores }, { on := 14, ground := Go.Ground.textOnly Go.Departure.lateStores }, { on := 15, ground := Go.Ground.textOnly Go.Departure.lateStores }, { on := 16, ground := Go.Ground.textOnly Go.Departure.lateStores }, { on := 17, ground := Go.Ground.textOnly Go.Departure.lateStores }, { on := 18, ground := Go.Ground.textOnly Go.Departure.lateStores }], guard := none }) (by kernel_rfl) rfl (fun K hK => ?_)
  clear hHeld
  go_simp
  refine hK.out _ _ ⟨far6d d0 n5, far6d d1 n5, far6d d2 n5, far6d d3 n5, far6d d4 n5, far6d d5 n5, far6d x0 n6, far6d x1 n6, far6d x2 n6, far6d y0 n4, far6d y1 n4, far6d y2 n4, far6d z0 n3, far6d z1 n3, far6d z2 n3⟩ (fun hHeld => ?_)
  clear hK K
  try simp only [Act.put, List.setIfInBounds_toArray, List.set_cons_zero, List.set_cons_succ]
  refine wpAnyT_take (i := 20) (oi := { dst := some 7, op := Go.Op.assign (Go.Operand.tmp 117), type := 4, pos := "law.go:91", after := #[{ on := 18, ground := Go.Ground.data }, { on := 19, ground := Go.Ground.chain }, { on := 0, ground := Go.Ground.phase }, { on := 1, ground := Go.Ground.phase }, { on := 2, ground := Go.Ground.phase }, { on := 3, ground := Go.Ground.phase }, { on := 4, ground := Go.Ground.phase }, { on := 5, ground := Go.Ground.phase }, { on := 6, ground := Go.Ground.phase }, { on := 7, ground := Go.Ground.phase }, { on := 8, ground := Go.Ground.phase }, { on := 9, ground := Go.Ground.phase }, { on := 10, ground := Go.Ground.phase }, { on := 11, ground := Go.Ground.phase }, { on := 12, ground := Go.Ground.phase }, { on := 13, ground := Go.Ground.phase }, { on := 14, ground := Go.Ground.phase }, { on := 15, ground := Go.Ground.phase }, { on := 16, ground := Go.Ground.phase }, { on := 17, ground := Go.Ground.phase }, { on := 18, ground := Go.Ground.phase }, { on := 19, ground := Go.Ground.phase }], guard := none }) (v := ?_) rfl (by kernel_rfl) (by kernel_rfl) (by kernel_rfl) (by kernel_rfl) (fun _ _ _ h => h) (Or.inl ⟨by rfl, ?_⟩) (by assumption) ?_
  rotate_left
  · intro w hSw
    (try dsimp only at hSw)
    go_simp
    all_goals (with_reducible rfl)
  try simp only [Act.put, List.setIfInBounds_toArray, List.set_cons_zero, List.set_cons_succ]
  refine wpAnyT_done (by kernel_rfl) ?_ _
  go_wp21
  refine post_as (fun WW => ∃ F', Ow w0 WW b S2 F' ∧ RfAt WW F' (rv S2.hold (.slice ao S2.opn.length co) S2.mark S2.free (.slice at4 S2.tkn.length ct4) S2.brk) S2 ∧ (∀ k, F k → F' k) ∧ Keep F w WW ∧
    WW.heap[B + 1 + 1]? = some (.cells (rc S2.hold (.slice ao S2.opn.length co) S2.mark S2.free (.slice at4 S2.tkn.length ct4) S2.brk) 67 (0, 0))) (M6.out.lastD _ _ _ _ _ _) ?_
  rintro WW ⟨F', e1, e2, e3, e4, e5⟩
  obtain ⟨s0, s1, s2, s3, s4, s5, _, _⟩ := blk_facts e5
  refine bodyPost_ret (v := .tuple #[rv S2.hold (.slice ao S2.opn.length co) S2.mark S2.free (.slice at4 S2.tkn.length ct4) S2.brk, .bool true]) (by simp [results, Tryd.results46, go_sem, s0, s1, s2, s3, s4, s5]) rfl ?_
  exact ⟨_, F', rfl, e1, e2, e3, e4⟩
end Go.Proofs.YtheemefggkcfbaaDoor
namespace Go.Proofs.YtheemefggkcfbaaDoor
open Go Go.Lib Go.RowKit Go.Shelf
theorem do_any (w0 w : World) (b : Nat) (S : Sp) (F : Nat → Prop) (v : Value) (k : Nat) (n : Int) (t T : ByteArray) (h : Ow w0 w b S F) (hS : S.ok) (hR : RfAt w F v S) (hT : t.extract 0 (min (t.size : Int) 200).toNat = T) (hE : Env w0) :
    Calls Tryd.prog 46 #[ptr b, v, .agg #[.int .u8 k, .int .i64 n, .string t]] w (DoEnd w0 w b (S.act (k % 10) n T.data.toList) F) := by
  unfold Sp.act
  split
  · rename_i hk; exact do_say w0 w b S F v k n t T h hS hR hk hT hE
  split
  · rename_i hk; exact do_break w0 w b S F v k n t h hR hk
  split
  · rename_i h1 h2 h3; exact do_fix w0 w b S F v k n t T h hS hR (by omega) hT hE
  split
  · rename_i hk; exact do_flush w0 w b S F v k n t h hR hk
  · rename_i h1 h2 h3 h4; exact do_take w0 w b S F v k n t h hS hR (by omega)
end Go.Proofs.YtheemefggkcfbaaDoor
namespace Go.Proofs.YtheemefggkcfbaaDoor
open Go Go.Lib Go.RowKit Go.Shelf
/-! ### a speaker and that of the reference, which lies in a box -/
def PlAt (w0 wx : World) (b : Nat) (S : Sp) (B : Nat) (vo vt : Value) : Prop :=
  ∃ F, Ow w0 wx b S F ∧ RfAt wx F (rv S.hold vo S.mark S.free vt S.brk) S ∧ F B ∧ w0.heap.size ≤ B ∧ wx.heap[B]? = some (.cells (rc S.hold vo S.mark S.free vt S.brk) 67 (0, 0))
/-- The new one of the reference in a box of its own, N. -/
def PlMid (w0 wx : World) (b : Nat) (S : Sp) (B N : Nat) (cs : Array Value) (vo vt : Value) : Prop :=
  ∃ F, Ow w0 wx b S F ∧ RfAt wx F (rv S.hold vo S.mark S.free vt S.brk) S ∧ F B ∧ F N ∧ w0.heap.size ≤ B ∧ wx.heap[B]? = some (.cells cs 67 (0, 0)) ∧ wx.heap[N]? = some (.cells (rc S.hold vo S.mark S.free vt S.brk) 67 (0, 0))
section
variable {w0 w wx w' : World} {b B N : Nat} {S S' : Sp} {F : Nat → Prop} {cs : Array Value} {v vo vt : Value}
theorem PlAt.dn (h : PlAt w0 wx b S B vo vt) : Below w0.heap.size w0 wx := by obtain ⟨_, h1, _⟩ := h; exact h1.dn
theorem PlMid.dn (h : PlMid w0 wx b S B N cs vo vt) : Below w0.heap.size w0 wx := by obtain ⟨_, h1, _⟩ := h; exact h1.dn
theorem PlMid.below (h : PlMid w0 wx b S B N cs vo vt) (hb : Below wx.heap.size wx w') : PlMid w0 w' b S B N cs vo vt := by
  obtain ⟨F, h1, h2, h3, h4, h5, h6, h7⟩ := h
  exact ⟨_, h1.below hb, (h2.below hb).weaken (fun k _ hk => Or.inl hk), Or.inl h3, Or.inl h4, h5, blk_stay h6 hb, blk_stay h7 hb⟩
/-- Rows of words do not lie where a speaker lies. -/
theorem row_else {s n h0 a2 a3 t2 t3 : Nat} {x : List UInt8} {r : List Value} {m bk : Bool} {f : Nat} {a1 t1 : Option Addr} (h : RowR wx s v n (strV x :: r)) (hB : wx.heap[B]? = some (.cells (rc h0 (.slice a1 a2 a3) m f (.slice t1 t2 t3) bk) 67 (0, 0))) : v.ownBlock ≠ some B := by
  intro e
  rcases h.2 with ⟨rfl, _⟩ | ⟨g, off, cap, rfl, hg, hc, hx⟩
  · cases e
  · injection e with e
    subst e
    have h0 := hx 0 _ (by rfl)
    simp only [World.cell?, hB, Nat.add_zero] at h0
    match off, h0 with
    | 0, h0 => cases h0
    | 1, h0 => simp [strV] at h0
    | 2, h0 => cases h0
    | 3, h0 => cases h0
    | 4, h0 => simp [strV] at h0
    | 5, h0 => cases h0
    | k + 6, h0 => simp at h0
theorem RowR.far0 {s n k o : Nat} {v u : Value} {xs : List Value} (h : RowR wx s v n xs) (hk : xs = [] ∨ v.ownBlock ≠ some k) : RowR (wx.setCell ⟨k, o, none⟩ u) s v n xs := by
  rcases hk with rfl | hk
  · refine ⟨h.1, ?_⟩
    rcases h.2 with h2 | ⟨g, off, cap, e, hg, hc, _⟩
    · exact Or.inl h2
    · exact Or.inr ⟨g, off, cap, e, by simpa using hg, hc, fun j u hu => by cases hu⟩
  · exact h.far hk
theorem else3 {n h0 a2 a3 t2 t3 : Nat} {l : List Spk} {m bk : Bool} {f : Nat} {a1 t1 : Option Addr} (h : RowR wx 3 v n (scells l)) (hB : wx.heap[B]? = some (.cells (rc h0 (.slice a1 a2 a3) m f (.slice t1 t2 t3) bk) 67 (0, 0))) : scells l = [] ∨ v.ownBlock ≠ some B := by
  cases l with
  | nil => exact Or.inl rfl
  | cons x r => exact Or.inr (row_else h hB)
theorem else1 {n h0 a2 a3 t2 t3 : Nat} {l : List (List UInt8)} {m bk : Bool} {f : Nat} {a1 t1 : Option Addr} (h : RowR wx 1 v n (wcells l)) (hB : wx.heap[B]? = some (.cells (rc h0 (.slice a1 a2 a3) m f (.slice t1 t2 t3) bk) 67 (0, 0))) : wcells l = [] ∨ v.ownBlock ≠ some B := by
  cases l with
  | nil => exact Or.inl rfl
  | cons x r => exact Or.inr (row_else h hB)
/-- The new one takes the old one's place. -/
theorem PlMid.take {h0 a2 a3 t2 t3 f : Nat} {m bk : Bool} {a1 t1 : Option Addr} (h : PlMid w0 wx b S B N (rc h0 (.slice a1 a2 a3) m f (.slice t1 t2 t3) bk) vo vt) :
    PlAt w0 ((((((wx.setCell ⟨B, 0, none⟩ (.int .i64 S.hold)).setCell ⟨B, 1, none⟩ vo).setCell ⟨B, 2, none⟩ (.bool S.mark)).setCell ⟨B, 3, none⟩ (.int .i64 S.free)).setCell ⟨B, 4, none⟩ vt).setCell ⟨B, 5, none⟩ (.bool S.brk)) b S B vo vt := by
  obtain ⟨F, h1, ⟨vo', vt', e, r1, r2, o1, o2⟩, h3, h4, h5, h6, h7⟩ := h
  injection e with e
  simp only [Array.mk.injEq, List.cons.injEq, and_true] at e
  obtain ⟨_, rfl, _, _, rfl, _⟩ := e
  have n1 := else3 r1 h6
  have n2 := else1 r2 h6
  exact ⟨F, (((((h1.far h3 h5).far h3 h5).far h3 h5).far h3 h5).far h3 h5).far h3 h5, ⟨vo, vt, rfl, (((((r1.far0 n1).far0 n1).far0 n1).far0 n1).far0 n1).far0 n1, (((((r2.far0 n2).far0 n2).far0 n2).far0 n2).far0 n2).far0 n2, o1, o2⟩, h3, h5, set6 h6⟩
/-- The new one, laid into a box that was made ahead of it. -/
theorem PlMid.lay (hO : Ow w0 wx b S F) (hR : RfAt wx F (rv S.hold vo S.mark S.free vt S.brk) S) (hB : F B) (hN : F N) (h0 : w0.heap.size ≤ B) (hN0 : w0.heap.size ≤ N) (hne : N ≠ B) (h6 : wx.heap[B]? = some (.cells cs 67 (0, 0))) (h7 : wx.heap[N]? = some (.cells rz 67 (0, 0))) :
    PlMid w0 ((((((wx.setCell ⟨N, 0, none⟩ (.int .i64 S.hold)).setCell ⟨N, 1, none⟩ vo).setCell ⟨N, 2, none⟩ (.bool S.mark)).setCell ⟨N, 3, none⟩ (.int .i64 S.free)).setCell ⟨N, 4, none⟩ vt).setCell ⟨N, 5, none⟩ (.bool S.brk)) b S B N cs vo vt := by
  obtain ⟨vo', vt', e, r1, r2, o1, o2⟩ := hR
  injection e with e
  simp only [Array.mk.injEq, List.cons.injEq, and_true] at e
  obtain ⟨_, rfl, _, _, rfl, _⟩ := e
  have h7' : wx.heap[N]? = some (.cells (rc 0 (.slice none 0 0) false 0 (.slice none 0 0) false) 67 (0, 0)) := h7
  have n1 := else3 r1 h7'
  have n2 := else1 r2 h7'
  have hne' : B ≠ N := hne.symm
  refine ⟨F, (((((hO.far hN hN0).far hN hN0).far hN hN0).far hN hN0).far hN hN0).far hN hN0, ⟨vo, vt, rfl, (((((r1.far0 n1).far0 n1).far0 n1).far0 n1).far0 n1).far0 n1, (((((r2.far0 n2).far0 n2).far0 n2).far0 n2).far0 n2).far0 n2, o1, o2⟩, hB, hN, h0, ?_, set6 h7⟩
  rw [heap_setCell_other _ _ _ _ hne', heap_setCell_other _ _ _ _ hne', heap_setCell_other _ _ _ _ hne', heap_setCell_other _ _ _ _ hne', heap_setCell_other _ _ _ _ hne', heap_setCell_other _ _ _ _ hne']
  exact h6
/-- .. into a box that is made behind it. -/
theorem PlMid.made (hO : Ow w0 wx b S F) (hR : RfAt wx F (rv S.hold vo S.mark S.free vt S.brk) S) (hB : F B) (h0 : w0.heap.size ≤ B) (h6 : wx.heap[B]? = some (.cells cs 67 (0, 0))) :
    PlMid w0 (wx.alloc (.cells (rc S.hold vo S.mark S.free vt S.brk) 67)) b S B wx.heap.size cs vo vt := by
  have hb := below1 (B := wx.heap.size) (w := wx) (.cells (rc S.hold vo S.mark S.free vt S.brk) 67) (Nat.le_refl _)
  exact ⟨_, hO.below hb, (hR.below hb).weaken (fun k _ hk => Or.inl hk), Or.inl hB, Or.inr ⟨Nat.le_refl _, by simp⟩, h0, blk_stay h6 hb, heap_alloc_new wx _⟩
theorem PlMid.drew (h : PlMid w0 wx b S B N cs vo vt) : PlMid w0 wx.drew b S B N cs vo vt := h.below ⟨rfl, rfl, rfl, Nat.le_refl _, fun _ _ => rfl⟩
theorem act_cell {p : Addr} {u : Value} (d1 : Below w0.heap.size w0 wx) (d2 : Below w0.heap.size w0 w') (hp : p.block < w0.heap.size) (hy : wx.cell? p = some u) : w'.cell? p = some u := (d2.cell hp).trans ((d1.cell hp).symm.trans hy)
theorem PlMid.six (h : PlMid w0 wx b S B N cs vo vt) : wx.cell? ⟨N, 0, none⟩ = some (.int .i64 S.hold) ∧ wx.cell? ⟨N, 1, none⟩ = some vo ∧ wx.cell? ⟨N, 2, none⟩ = some (.bool S.mark) ∧ wx.cell? ⟨N, 3, none⟩ = some (.int .i64 S.free) ∧ wx.cell? ⟨N, 4, none⟩ = some vt ∧ wx.cell? ⟨N, 5, none⟩ = some (.bool S.brk) := by
  obtain ⟨F, h1, h2, h3, h4, h5, h6, h7⟩ := h
  obtain ⟨c0, c1, c2, c3, c4, c5, _, _⟩ := blk_facts h7
  exact ⟨c0, c1, c2, c3, c4, c5⟩
theorem PlMid.ow (h : PlMid w0 wx b S B N cs vo vt) : ∃ F, Ow w0 wx b S F ∧ RfAt wx F (rv S.hold vo S.mark S.free vt S.brk) S := by
  obtain ⟨F, h1, h2, h3, h4, h5, h6, h7⟩ := h
  exact ⟨F, h1, h2⟩
theorem PlMid.old (h : PlMid w0 wx b S B N cs vo vt) : wx.heap[B]? = some (.cells cs 67 (0, 0)) ∧ wx.heap[N]? = some (.cells (rc S.hold vo S.mark S.free vt S.brk) 67 (0, 0)) := by
  obtain ⟨F, h1, h2, h3, h4, h5, h6, h7⟩ := h
  exact ⟨h6, h7⟩
/-- The act, in whatever world behind. -/
theorem pl_do (hO : Ow w0 wx b S F) (hR : RfAt wx F v S) (hb : Below wx.heap.size wx w) (hS : S.ok) (k : Nat) (n : Int) (t T : ByteArray) (hT : t.extract 0 (min (t.size : Int) 200).toNat = T) (hE : Env w0) :
    Calls Tryd.prog 46 #[ptr b, v, .agg #[.int .u8 k, .int .i64 n, .string t]] w (DoEnd w0 w b (S.act (k % 10) n T.data.toList) (also F wx w)) :=
  do_any w0 w b S _ v k n t T (hO.below hb) hS ((hR.below hb).weaken (fun k _ hk => Or.inl hk)) hT hE
end
end Go.Proofs.YtheemefggkcfbaaDoor
namespace Go.Proofs.YtheemefggkcfbaaDoor
open Go Go.Lib Go.RowKit Go.Shelf
theorem cell_al {w : World} {p : Addr} {u : Value} (h : w.cell? p = some u) (o : Obj) : (w.alloc o).cell? p = some u := ((below1 (B := w.heap.size) o (Nat.le_refl _)).cell (cell_lt h)).trans h
theorem cell_ald {w : World} {p : Addr} {u : Value} (h : w.cell? p = some u) (o : Obj) : (w.alloc o).drew.cell? p = some u := by rw [World.cell?_drew]; exact cell_al h o
set_option maxHeartbeats 8000000 in
set_option maxRecDepth 100000 in
theorem law_plays (h : Int) (a : Option Addr) (c : Nat) (L : List Ac) (w : World) (hE : Env w) (hR : 0 < L.length → RowR w 3 (.slice a L.length c) L.length (acells L)) (hL : L.length ≤ 9223372036854775807) (hsz : ∀ x ∈ L, x.1 < 256 ∧ x.2.2.length ≤ 9223372036854775807) :
    Calls Tryd.prog 13 #[.int .i64 h, .slice a L.length c] w fun e w' => e = .returned (.bool true) ∧ Below w.heap.size w w' := by
  go_enter Tryd.func13, Tryd.ntmps13
  go_wp2_with fail
  refine (awake_any w hE).mono ?_
  rintro e w1 ⟨rfl, hb1⟩
  go_wp2_with fail
  by_cases hh : h < 0 ∨ 16 < h
  · refine (new_bad w1 h hh).mono ?_
    rintro e wq ⟨rfl, rfl⟩
    go_wp2_with fail
    refine (rnew_bad _ h hh).mono ?_
    rintro e w2 ⟨rfl, hb2⟩
    go_wp2_with fail
    go_ret
    exact ⟨rfl, (hb1.trans (hb2.mono hb1.size)).alloc (by have := hb1.size; have := hb2.size; omega) _⟩
  · obtain ⟨n, rfl⟩ : ∃ n : Nat, h = n := ⟨h.toNat, by omega⟩
    have hn : n ≤ 16 := by omega
    refine (new_ow (w0 := w) n hn hb1).mono ?_
    rintro e w2 ⟨b, rfl, hA, hb2⟩
    have A := Lib.hid hA
    clear hA hb1 hb2 hh
    go_wp2_with fail
    refine (rnew_any w2 n hn).mono ?_
    rintro e w3 ⟨rfl, hb3⟩
    have A3 := Lib.hid (A.out.below hb3)
    clear A hb3
    have HR := Lib.hid hR
    have HZ := Lib.hid hsz
    clear hR hsz
    go_upto_region 5 with fail
    refine world_as (fun W => PlAt w W b (Sp.new n) w3.heap.size (.slice none 0 0) (.slice none 0 0)) ⟨_, A3.out.below (below1 _ (Nat.le_refl _)), rfnew_at _ _ n, Or.inr ⟨Nat.le_refl _, by simp⟩, A3.out.dn.size, heap_alloc_new w3 _⟩ ?_
    intro W P0
    have P := Lib.hid P0
    clear P0 A3
    generalize w3.heap.size = B at *
    go_wp2_with fail
    go_loopw [9] (fun iv wx => ∃ (i : Nat) (S : Sp) (vo vt : Value), iv = .int .i64 i ∧ i ≤ 24 ∧ i ≤ L.length ∧ S.ok ∧ Hid (PlAt w wx b S B vo vt)) (fun v _ => 24 - (intOf v).toNat)
    case atStart => exact ⟨0, Sp.new n, _, _, rfl, by omega, by omega, new_ok hn, P⟩
    case round =>
      clear P
      obtain ⟨i, S, vo, vt, rfl, hi24, hiL, hS, P⟩ := hrel
      by_cases hlt : i < 24 ∧ i < L.length
      · have hz1 : (i : Int) < (L.length : Int) := by omega
        have hz2 : (i : Int) < 24 := by omega
        have R1 := (HR.out (by omega)).below P.out.dn
        rcases R1.2 with ⟨_, e⟩ | ⟨g, off, cap, e, hg, hc, _⟩
        · omega
        obtain ⟨rfl, rfl⟩ : a = some ⟨g, off, none⟩ ∧ c = cap := by injection e with e1 _ e3; exact ⟨e1, e3⟩
        have hgw : g < w.heap.size := by
          rcases (HR.out (by omega)).2 with ⟨e, _⟩ | ⟨g', _, _, e, hg', _⟩
          · cases e
          · injection e with e _ _; injection e with e; injection e with e _ _; rw [e]; exact hg'
        obtain ⟨y0, y1, y2⟩ := RowR.atA R1 i hlt.2
        have hY := HZ.out (L.getD i default) (by rw [List.getD_eq_getElem?_getD, List.getElem?_eq_getElem hlt.2]; exact List.getElem_mem _)
        generalize L.getD i default = Y at *
        clear R1 e
        obtain ⟨yk, yn, yt⟩ := Y
        dsimp only at y0 y1 y2 hY
        rw [← Nat.add_assoc] at y1 y2
        have hyt : (ba yt).size ≤ 9223372036854775807 := hY.2
        have P' := P.out
        obtain ⟨F, hO, hRf, hFB, hwB, hB⟩ := P'
        have hRf' := hRf
        obtain ⟨_, _, e, g1, g2, _, _⟩ := hRf
        injection e with e
        simp only [Array.mk.injEq, List.cons.injEq, and_true] at e
        obtain ⟨_, rfl, _, _, rfl, _⟩ := e
        obtain ⟨ao, co, rfl⟩ := g1.len
        obtain ⟨at4, ct4, rfl⟩ := g2.len
        clear g1 g2
        obtain ⟨c0, c1, c2, c3, c4, c5, cf, cl⟩ := blk_facts hB
        go_upto_region 10 with fail
        refine wp_region_tail 13 (S := (fun w' => w'.cell? ⟨B, 0, none⟩ = some (.int .i64 S.hold) ∧ w'.cell? ⟨B, 1, none⟩ = some (.slice ao S.opn.length co) ∧ w'.cell? ⟨B, 2, none⟩ = some (.bool S.mark) ∧ w'.cell? ⟨B, 3, none⟩ = some (.int .i64 S.free) ∧ w'.cell? ⟨B, 4, none⟩ = some (.slice at4 S.tkn.length ct4) ∧ w'.cell? ⟨B, 5, none⟩ = some (.bool S.brk) ∧ w'.cell? ⟨g, off + i * 3, none⟩ = some (.int .u8 yk) ∧ w'.cell? ⟨g, off + i * 3 + 1, none⟩ = some (.int .i64 yn) ∧ w'.cell? ⟨g, off + i * 3 + 2, none⟩ = some (.string (ba yt)))) (by kernel_rfl) ⟨c0, c1, c2, c3, c4, c5, y0, y1, y2⟩ (fun hHeld => ?_)
        simp only [List.size_toArray, List.length_cons, List.length_nil, Nat.zero_add, Nat.reduceAdd]
        refine wpAnyT_take (i := 0) (oi := { dst := some 49, op := Go.Op.move (Go.Operand.tmp 5), type := 48, pos := "law.go:105", after := #[], guard := none }) (v := ?_) rfl (by kernel_rfl) (by kernel_rfl) (by kernel_rfl) (by kernel_rfl) (fun _ _ _ h => h) (Or.inl ⟨by rfl, ?_⟩) (by assumption) ?_
        rotate_left
        · intro w hSw
          (try dsimp only at hSw)
          go_simp
          all_goals (with_reducible rfl)
        try simp only [Act.put, List.setIfInBounds_toArray, List.set_cons_zero, List.set_cons_succ]
        refine wpAnyT_take (i := 1) (oi := { dst := some 50, op := Go.Op.load 67 (Go.Operand.tmp 7), type := 67, pos := "law.go:105", after := #[], guard := none }) (v := ?_) rfl (by kernel_rfl) (by kernel_rfl) (by kernel_rfl) (by kernel_rfl) (fun _ _ _ h => h) (Or.inl ⟨by rfl, ?_⟩) (by assumption) ?_
        rotate_left
        · intro w hSw
          (try dsimp only at hSw)
          go_simp
          all_goals (with_reducible rfl)
        try simp only [Act.put, List.setIfInBounds_toArray, List.set_cons_zero, List.set_cons_succ]
        refine wpAnyT_take (i := 2) (oi := { dst := some 51, op := Go.Op.move (Go.Operand.tmp 1), type := 55, pos := "law.go:105", after := #[], guard := none }) (v := ?_) rfl (by kernel_rfl) (by kernel_rfl) (by kernel_rfl) (by kernel_rfl) (fun _ _ _ h => h) (Or.inl ⟨by rfl, ?_⟩) (by assumption) ?_
        rotate_left
        · intro w hSw
          (try dsimp only at hSw)
          go_simp
          all_goals (with_reducible rfl)
        try simp only [Act.put, List.setIfInBounds_toArray, List.set_cons_zero, List.set_cons_succ]
        refine wpAnyT_take (i := 3) (oi := { dst := some 52, op := Go.Op.move (Go.Operand.tmp 9), type := 3, pos := "law.go:105", after := #[], guard := none }) (v := ?_) rfl (by kernel_rfl) (by kernel_rfl) (by kernel_rfl) (by kernel_rfl) (fun _ _ _ h => h) (Or.inl ⟨by rfl, ?_⟩) (by assumption) ?_
        rotate_left
        · intro w hSw
          (try dsimp only at hSw)
          go_simp
          all_goals (with_reducible rfl)
        try simp only [Act.put, List.setIfInBounds_toArray, List.set_cons_zero, List.set_cons_succ]
        refine wpAnyT_take (i := 4) (oi := { dst := some 53, op := Go.Op.indexAddr 55 (Go.Operand.tmp 51) (Go.Operand.tmp 52), type := 0, pos := "law.go:105", after := #[{ on := 2, ground := Go.Ground.data }, { on := 3, ground := Go.Ground.data }], guard := none }) (v := ?_) rfl (by kernel_rfl) (by kernel_rfl) (by kernel_rfl) (by kernel_rfl) (fun _ _ _ h => h) (Or.inl ⟨by rfl, ?_⟩) (by assumption) ?_
        rotate_left
        · intro w hSw
          (try dsimp only at hSw)
          go_simp
          all_goals (with_reducible rfl)
        try simp only [Act.put, List.setIfInBounds_toArray, List.set_cons_zero, List.set_cons_succ]
        refine wpAnyT_take (i := 5) (oi := { dst := some 54, op := Go.Op.load 57 (Go.Operand.tmp 53), type := 57, pos := "law.go:105", after := #[{ on := 4, ground := Go.Ground.data }], guard := none }) (v := ?_) rfl (by kernel_rfl) (by kernel_rfl) (by kernel_rfl) (by kernel_rfl) (fun _ _ _ h => h) (Or.inl ⟨by rfl, ?_⟩) (by assumption) ?_
        rotate_left
        · intro w hSw
          (try dsimp only at hSw)
          go_simp
          all_goals (with_reducible rfl)
        try simp only [Act.put, List.setIfInBounds_toArray, List.set_cons_zero, List.set_cons_succ]
        refine wpAnyT_two (i := 6) (j := 10) (oi := { dst := some 55, op := Go.Op.call { callee := Go.Callee.value (Go.Operand.func 46), args := #[Go.Operand.tmp 49, Go.Operand.tmp 50, Go.Operand.tmp 54], argTypes := #[48, 67, 57] }, type := 70, pos := "law.go:105", after := #[{ on := 0, ground := Go.Ground.data }, { on := 1, ground := Go.Ground.data }, { on := 5, ground := Go.Ground.data }], guard := none }) (oj := { dst := some 10, op := Go.Op.alloc 67, type := 0, pos := "law.go:105", after := #[], guard := none }) (by kernel_rfl) rfl rfl (fun K hK => ?ga) (fun K hK => ?gb)
        case' ga =>
          go_simp
          go_at_call 46
          refine (pl_do hO hRf' (Below.refl _ _).drew hS yk yn (ba yt) _ rfl hE).mono ?_
          rintro e w5 ⟨v', F', rfl, hO5, hR5, hF5, hK5⟩
          have q6 := hK5.obj (show wr.drew.heap[B]? = _ from hB) (Or.inl hFB)
          obtain ⟨e0, e1, e2, e3, e4, e5, ef, el⟩ := blk_facts q6
          have u0 := act_cell P.out.dn hO5.dn (p := ⟨g, off + i * 3, none⟩) hgw y0
          have u1 := act_cell P.out.dn hO5.dn (p := ⟨g, off + i * 3 + 1, none⟩) hgw y1
          have u2 := act_cell P.out.dn hO5.dn (p := ⟨g, off + i * 3 + 2, none⟩) hgw y2
          have hS' := act_ok hS (yk % 10) yn ((ba yt).extract 0 (min ((ba yt).size : Int) 200).toNat).data.toList
          generalize S.act (yk % 10) yn ((ba yt).extract 0 (min ((ba yt).size : Int) 200).toNat).data.toList = S' at *
          have hR5' := hR5
          obtain ⟨vo', vt', rfl, g1, g2, _, _⟩ := hR5'
          obtain ⟨ao', co', rfl⟩ := g1.len
          obtain ⟨at5, ct5, rfl⟩ := g2.len
          clear g1 g2
          have HM := Lib.hid (PlMid.made hO5 hR5 (hF5 _ (Or.inl hFB)) hwB q6)
          clear hHeld c0 c1 c2 c3 c4 c5 cf cl y0 y1 y2 hO5 hR5 hF5 hK5 q6
          go_wp2_with fail
          refine hK.out _ _ ⟨e0, e1, e2, e3, e4, e5, u0, u1, u2⟩ (fun hHeld => ?_)
          clear hK K
          try simp only [Act.put, List.setIfInBounds_toArray, List.set_cons_zero, List.set_cons_succ]
          refine wpAnyT_take (i := 7) (oi := { dst := some 48, op := Go.Op.move (Go.Operand.tmp 55), type := 70, pos := "law.go:105", after := #[{ on := 6, ground := Go.Ground.data }], guard := none }) (v := ?_) rfl (by kernel_rfl) (by kernel_rfl) (by kernel_rfl) (by kernel_rfl) (fun _ _ _ h => h) (Or.inl ⟨by rfl, ?_⟩) (by assumption) ?_
          rotate_left
          · intro w hSw
            (try dsimp only at hSw)
            go_simp
            all_goals (with_reducible rfl)
          try simp only [Act.put, List.setIfInBounds_toArray, List.set_cons_zero, List.set_cons_succ]
          refine wpAnyT_take (i := 8) (oi := { dst := some 56, op := Go.Op.extract (Go.Operand.tmp 48) 0, type := 67, pos := "law.go:105", after := #[{ on := 7, ground := Go.Ground.data }], guard := none }) (v := ?_) rfl (by kernel_rfl) (by kernel_rfl) (by kernel_rfl) (by kernel_rfl) (fun _ _ _ h => h) (Or.inl ⟨by rfl, ?_⟩) (by assumption) ?_
          rotate_left
          · intro w hSw
            (try dsimp only at hSw)
            go_simp
            all_goals (with_reducible rfl)
          try simp only [Act.put, List.setIfInBounds_toArray, List.set_cons_zero, List.set_cons_succ]
          refine wpAnyT_take (i := 9) (oi := { dst := some 57, op := Go.Op.extract (Go.Operand.tmp 48) 1, type := 4, pos := "law.go:105", after := #[{ on := 7, ground := Go.Ground.data }, { on := 11, ground := Go.Ground.gcOnly Go.Departure.lateStores }], guard := none }) (v := ?_) rfl (by kernel_rfl) (by kernel_rfl) (by kernel_rfl) (by kernel_rfl) (fun _ _ _ h => h) (Or.inl ⟨by rfl, ?_⟩) (by assumption) ?_
          rotate_left
          · intro w hSw
            (try dsimp only at hSw)
            go_simp
            all_goals (with_reducible rfl)
          try simp only [Act.put, List.setIfInBounds_toArray, List.set_cons_zero, List.set_cons_succ]
          refine wpAnyT_one (i := 10) (o := { dst := some 10, op := Go.Op.alloc 67, type := 0, pos := "law.go:105", after := #[], guard := none }) (by kernel_rfl) rfl (fun K hK => ?_)
          clear hHeld
          go_simp
          refine hK.out _ _ ⟨cell_al e0 _, cell_al e1 _, cell_al e2 _, cell_al e3 _, cell_al e4 _, cell_al e5 _, cell_al u0 _, cell_al u1 _, cell_al u2 _⟩ (fun hHeld => ?_)
          clear hK K
          try simp only [Act.put, List.setIfInBounds_toArray, List.set_cons_zero, List.set_cons_succ]
          refine wpAnyT_one (i := 11) (o := { dst := none, op := Go.Op.store 67 (Go.Operand.tmp 10) (Go.Operand.tmp 56), type := 0, pos := "law.go:105", after := #[{ on := 10, ground := Go.Ground.data }, { on := 8, ground := Go.Ground.data }, { on := 6, ground := Go.Ground.chain }, { on := 0, ground := Go.Ground.phase }, { on := 1, ground := Go.Ground.phase }, { on := 2, ground := Go.Ground.phase }, { on := 3, ground := Go.Ground.phase }, { on := 4, ground := Go.Ground.phase }, { on := 5, ground := Go.Ground.phase }, { on := 6, ground := Go.Ground.phase }, { on := 7, ground := Go.Ground.phase }, { on := 8, ground := Go.Ground.phase }, { on := 9, ground := Go.Ground.textOnly Go.Departure.lateStores }, { on := 10, ground := Go.Ground.phase }], guard := none }) (by kernel_rfl) rfl (fun K hK => ?_)
          clear hHeld
          go_simp
          refine hK.out _ _ ⟨cell_al e0 _, cell_al e1 _, cell_al e2 _, cell_al e3 _, cell_al e4 _, cell_al e5 _, cell_al u0 _, cell_al u1 _, cell_al u2 _⟩ (fun hHeld => ?_)
          clear hK K
          try simp only [Act.put, List.setIfInBounds_toArray, List.set_cons_zero, List.set_cons_succ]
          refine wpAnyT_take (i := 12) (oi := { dst := some 11, op := Go.Op.assign (Go.Operand.tmp 57), type := 4, pos := "law.go:105", after := #[{ on := 9, ground := Go.Ground.data }, { on := 11, ground := Go.Ground.chain }, { on := 0, ground := Go.Ground.phase }, { on := 1, ground := Go.Ground.phase }, { on := 2, ground := Go.Ground.phase }, { on := 3, ground := Go.Ground.phase }, { on := 4, ground := Go.Ground.phase }, { on := 5, ground := Go.Ground.phase }, { on := 6, ground := Go.Ground.phase }, { on := 7, ground := Go.Ground.phase }, { on := 8, ground := Go.Ground.phase }, { on := 9, ground := Go.Ground.phase }, { on := 10, ground := Go.Ground.phase }, { on := 11, ground := Go.Ground.phase }], guard := none }) (v := ?_) rfl (by kernel_rfl) (by kernel_rfl) (by kernel_rfl) (by kernel_rfl) (fun _ _ _ h => h) (Or.inl ⟨by rfl, ?_⟩) (by assumption) ?_
          rotate_left
          · intro w hSw
            (try dsimp only at hSw)
            go_simp
            all_goals (with_reducible rfl)
          try simp only [Act.put, List.setIfInBounds_toArray, List.set_cons_zero, List.set_cons_succ]
          refine wpAnyT_done (by kernel_rfl) ?_ _
          clear hHeld e0 e1 e2 e3 e4 e5 ef el u0 u1 u2
          try clear hK
          go_upto_region 11 with fail
          refine world_as (fun W => PlMid w W b S' B w5.heap.size (rc S.hold (.slice ao S.opn.length co) S.mark S.free (.slice at4 S.tkn.length ct4) S.brk) (.slice ao' S'.opn.length co') (.slice at5 S'.tkn.length ct5)) HM.out ?_
          intro W6 M6
          clear HM
          generalize w5.heap.size = N at *
        case' gb =>
          go_simp
          refine hK.out _ _ ⟨cell_ald c0 _, cell_ald c1 _, cell_ald c2 _, cell_ald c3 _, cell_ald c4 _, cell_ald c5 _, cell_ald y0 _, cell_ald y1 _, cell_ald y2 _⟩ (fun hHeld => ?_)
          clear hK K
          try simp only [Act.put, List.setIfInBounds_toArray, List.set_cons_zero, List.set_cons_succ]
          refine wpAnyT_one (i := 6) (o := { dst := some 55, op := Go.Op.call { callee := Go.Callee.value (Go.Operand.func 46), args := #[Go.Operand.tmp 49, Go.Operand.tmp 50, Go.Operand.tmp 54], argTypes := #[48, 67, 57] }, type := 70, pos := "law.go:105", after := #[{ on := 0, ground := Go.Ground.data }, { on := 1, ground := Go.Ground.data }, { on := 5, ground := Go.Ground.data }], guard := none }) (by kernel_rfl) rfl (fun K hK => ?_)
          clear hHeld
          go_simp
          go_at_call 46
          refine (pl_do hO hRf' (below1 _ (Nat.le_refl _)).drew hS yk yn (ba yt) _ rfl hE).mono ?_
          rintro e w5 ⟨v', F', rfl, hO5, hR5, hF5, hK5⟩
          have q6 := hK5.obj (show (wr.alloc (.cells rz 67)).drew.heap[B]? = _ from blk_stay hB (below1 (.cells rz 67) (Nat.le_refl _)).drew) (Or.inl hFB)
          have qN := hK5.obj (show (wr.alloc (.cells rz 67)).drew.heap[wr.heap.size]? = _ from heap_alloc_new wr _) (Or.inr ⟨Nat.le_refl _, by simp⟩)
          have hNB : wr.heap.size ≠ B := by have := heap_lt hB; omega
          have hNg : wr.heap.size ≠ g := by have := P.out.dn.size; omega
          obtain ⟨e0, e1, e2, e3, e4, e5, ef, el⟩ := blk_facts q6
          have u0 := act_cell P.out.dn hO5.dn (p := ⟨g, off + i * 3, none⟩) hgw y0
          have u1 := act_cell P.out.dn hO5.dn (p := ⟨g, off + i * 3 + 1, none⟩) hgw y1
          have u2 := act_cell P.out.dn hO5.dn (p := ⟨g, off + i * 3 + 2, none⟩) hgw y2
          have hS' := act_ok hS (yk % 10) yn ((ba yt).extract 0 (min ((ba yt).size : Int) 200).toNat).data.toList
          generalize S.act (yk % 10) yn ((ba yt).extract 0 (min ((ba yt).size : Int) 200).toNat).data.toList = S' at *
          have hR5' := hR5
          obtain ⟨vo', vt', rfl, g1, g2, _, _⟩ := hR5'
          obtain ⟨ao', co', rfl⟩ := g1.len
          obtain ⟨at5, ct5, rfl⟩ := g2.len
          clear g1 g2
          obtain ⟨r0, r1, r2, r3, r4, r5, rf, rl⟩ := blk_facts qN
          have HM := Lib.hid (PlMid.lay hO5 hR5 (hF5 _ (Or.inl hFB)) (hF5 _ (Or.inr ⟨Nat.le_refl _, by simp⟩)) hwB P.out.dn.size hNB q6 qN)
          clear c0 c1 c2 c3 c4 c5 cf cl y0 y1 y2 hO5 hR5 hF5 hK5 q6 qN
          go_wp2_with fail
          refine hK.out _ _ ⟨e0, e1, e2, e3, e4, e5, u0, u1, u2⟩ (fun hHeld => ?_)
          clear hK K
          try simp only [Act.put, List.setIfInBounds_toArray, List.set_cons_zero, List.set_cons_succ]
          refine wpAnyT_take (i := 7) (oi := { dst := some 48, op := Go.Op.move (Go.Operand.tmp 55), type := 70, pos := "law.go:105", after := #[{ on := 6, ground := Go.Ground.data }], guard := none }) (v := ?_) rfl (by kernel_rfl) (by kernel_rfl) (by kernel_rfl) (by kernel_rfl) (fun _ _ _ h => h) (Or.inl ⟨by rfl, ?_⟩) (by assumption) ?_
          rotate_left
          · intro w hSw
            (try dsimp only at hSw)
            go_simp
            all_goals (with_reducible rfl)
          try simp only [Act.put, List.setIfInBounds_toArray, List.set_cons_zero, List.set_cons_succ]
          refine wpAnyT_take (i := 8) (oi := { dst := some 56, op := Go.Op.extract (Go.Operand.tmp 48) 0, type := 67, pos := "law.go:105", after := #[{ on := 7, ground := Go.Ground.data }], guard := none }) (v := ?_) rfl (by kernel_rfl) (by kernel_rfl) (by kernel_rfl) (by kernel_rfl) (fun _ _ _ h => h) (Or.inl ⟨by rfl, ?_⟩) (by assumption) ?_
          rotate_left
          · intro w hSw
            (try dsimp only at hSw)
            go_simp
            all_goals (with_reducible rfl)
          try simp only [Act.put, List.setIfInBounds_toArray, List.set_cons_zero, List.set_cons_succ]
          refine wpAnyT_take (i := 9) (oi := { dst := some 57, op := Go.Op.extract (Go.Operand.tmp 48) 1, type := 4, pos := "law.go:105", after := #[{ on := 7, ground := Go.Ground.data }, { on := 11, ground := Go.Ground.gcOnly Go.Departure.lateStores }], guard := none }) (v := ?_) rfl (by kernel_rfl) (by kernel_rfl) (by kernel_rfl) (by kernel_rfl) (fun _ _ _ h => h) (Or.inl ⟨by rfl, ?_⟩) (by assumption) ?_
          rotate_left
          · intro w hSw
            (try dsimp only at hSw)
            go_simp
            all_goals (with_reducible rfl)
          try simp only [Act.put, List.setIfInBounds_toArray, List.set_cons_zero, List.set_cons_succ]
          refine wpAnyT_one (i := 11) (o := { dst := none, op := Go.Op.store 67 (Go.Operand.tmp 10) (Go.Operand.tmp 56), type := 0, pos := "law.go:105", after := #[{ on := 10, ground := Go.Ground.data }, { on := 8, ground := Go.Ground.data }, { on := 6, ground := Go.Ground.chain }, { on := 0, ground := Go.Ground.phase }, { on := 1, ground := Go.Ground.phase }, { on := 2, ground := Go.Ground.phase }, { on := 3, ground := Go.Ground.phase }, { on := 4, ground := Go.Ground.phase }, { on := 5, ground := Go.Ground.phase }, { on := 6, ground := Go.Ground.phase }, { on := 7, ground := Go.Ground.phase }, { on := 8, ground := Go.Ground.phase }, { on := 9, ground := Go.Ground.textOnly Go.Departure.lateStores }, { on := 10, ground := Go.Ground.phase }], guard := none }) (by kernel_rfl) rfl (fun K hK => ?_)
          clear hHeld
          go_simp
          refine hK.out _ _ ⟨far6 e0 hNB, far6 e1 hNB, far6 e2 hNB, far6 e3 hNB, far6 e4 hNB, far6 e5 hNB, far6 u0 hNg, far6 u1 hNg, far6 u2 hNg⟩ (fun hHeld => ?_)
          clear hK K
          try simp only [Act.put, List.setIfInBounds_toArray, List.set_cons_zero, List.set_cons_succ]
          refine wpAnyT_take (i := 12) (oi := { dst := some 11, op := Go.Op.assign (Go.Operand.tmp 57), type := 4, pos := "law.go:105", after := #[{ on := 9, ground := Go.Ground.data }, { on := 11, ground := Go.Ground.chain }, { on := 0, ground := Go.Ground.phase }, { on := 1, ground := Go.Ground.phase }, { on := 2, ground := Go.Ground.phase }, { on := 3, ground := Go.Ground.phase }, { on := 4, ground := Go.Ground.phase }, { on := 5, ground := Go.Ground.phase }, { on := 6, ground := Go.Ground.phase }, { on := 7, ground := Go.Ground.phase }, { on := 8, ground := Go.Ground.phase }, { on := 9, ground := Go.Ground.phase }, { on := 10, ground := Go.Ground.phase }, { on := 11, ground := Go.Ground.phase }], guard := none }) (v := ?_) rfl (by kernel_rfl) (by kernel_rfl) (by kernel_rfl) (by kernel_rfl) (fun _ _ _ h => h) (Or.inl ⟨by rfl, ?_⟩) (by assumption) ?_
          rotate_left
          · intro w hSw
            (try dsimp only at hSw)
            go_simp
            all_goals (with_reducible rfl)
          try simp only [Act.put, List.setIfInBounds_toArray, List.set_cons_zero, List.set_cons_succ]
          refine wpAnyT_done (by kernel_rfl) ?_ _
          clear hHeld e0 e1 e2 e3 e4 e5 ef el u0 u1 u2 r0 r1 r2 r3 r4 r5 rf rl
          go_upto_region 11 with fail
          refine world_as (fun W => PlMid w W b S' B wr.heap.size (rc S.hold (.slice ao S.opn.length co) S.mark S.free (.slice at4 S.tkn.length ct4) S.brk) (.slice ao' S'.opn.length co') (.slice at5 S'.tkn.length ct5)) HM.out ?_
          intro W6 M6
          clear HM hNB hNg
          generalize wr.heap.size = N at *
        all_goals
          clear P hO hRf' hFB hwB hB hgw hz1 hz2 hY hyt
          have M7 := Lib.hid M6.drew
          clear M6
          have hlen := hS'.len
          refine wp_region_tail 18 (S := (fun w' => w'.cell? ⟨N, 0, none⟩ = some (.int .i64 S'.hold) ∧ w'.cell? ⟨N, 1, none⟩ = some (.slice ao' S'.opn.length co') ∧ w'.cell? ⟨N, 2, none⟩ = some (.bool S'.mark) ∧ w'.cell? ⟨N, 3, none⟩ = some (.int .i64 S'.free) ∧ w'.cell? ⟨N, 4, none⟩ = some (.slice at5 S'.tkn.length ct5) ∧ w'.cell? ⟨N, 5, none⟩ = some (.bool S'.brk))) (by kernel_rfl) M7.out.six (fun hHeld => ?_)
          simp only [List.size_toArray, List.length_cons, List.length_nil, Nat.zero_add, Nat.reduceAdd]
          refine wpAnyT_take (i := 0) (oi := { dst := some 58, op := Go.Op.move (Go.Operand.tmp 11), type := 4, pos := "law.go:106", after := #[], guard := none }) (v := ?_) rfl (by kernel_rfl) (by kernel_rfl) (by kernel_rfl) (by kernel_rfl) (fun _ _ _ h => h) (Or.inl ⟨by rfl, ?_⟩) (by assumption) ?_
          rotate_left
          · intro w hSw
            (try dsimp only at hSw)
            go_simp
            all_goals (with_reducible rfl)
          try simp only [Act.put, List.setIfInBounds_toArray, List.set_cons_zero, List.set_cons_succ]
          refine wpAnyT_take (i := 1) (oi := { dst := some 59, op := Go.Op.unOp Go.UnOp.not 4 (Go.Operand.tmp 58), type := 4, pos := "law.go:106", after := #[{ on := 0, ground := Go.Ground.data }], guard := none }) (v := ?_) rfl (by kernel_rfl) (by kernel_rfl) (by kernel_rfl) (by kernel_rfl) (fun _ _ _ h => h) (Or.inl ⟨by rfl, ?_⟩) (by assumption) ?_
          rotate_left
          · intro w hSw
            (try dsimp only at hSw)
            go_simp
            all_goals (with_reducible rfl)
          try simp only [Act.put, List.setIfInBounds_toArray, List.set_cons_zero, List.set_cons_succ]
          refine wpAnyT_take (i := 2) (oi := { dst := some 60, op := Go.Op.move (Go.Operand.tmp 59), type := 4, pos := "law.go:106", after := #[{ on := 1, ground := Go.Ground.data }], guard := none }) (v := ?_) rfl (by kernel_rfl) (by kernel_rfl) (by kernel_rfl) (by kernel_rfl) (fun _ _ _ h => h) (Or.inl ⟨by rfl, ?_⟩) (by assumption) ?_
          rotate_left
          · intro w hSw
            (try dsimp only at hSw)
            go_simp
            all_goals (with_reducible rfl)
          try simp only [Act.put, List.setIfInBounds_toArray, List.set_cons_zero, List.set_cons_succ]
          refine wpAnyT_take (i := 3) (oi := { dst := some 61, op := Go.Op.move (Go.Operand.tmp 5), type := 48, pos := "law.go:106", after := #[{ on := 2, ground := Go.Ground.guard }], guard := some (2, false) }) (v := ?_) rfl (by kernel_rfl) (by kernel_rfl) (by kernel_rfl) (by kernel_rfl) (fun _ _ _ h => h) (Or.inl ⟨by rfl, ?_⟩) (by assumption) ?_
          rotate_left
          · intro w hSw
            (try dsimp only at hSw)
            go_simp
            all_goals (with_reducible rfl)
          try simp only [Act.put, List.setIfInBounds_toArray, List.set_cons_zero, List.set_cons_succ]
          refine wpAnyT_take (i := 5) (oi := { dst := some 63, op := Go.Op.load 67 (Go.Operand.tmp 10), type := 67, pos := "law.go:106", after := #[{ on := 2, ground := Go.Ground.guard }], guard := some (2, false) }) (v := ?_) rfl (by kernel_rfl) (by kernel_rfl) (by kernel_rfl) (by kernel_rfl) (fun _ _ _ h => h) (Or.inl ⟨by rfl, ?_⟩) (by assumption) ?_
          rotate_left
          · intro w hSw
            (try dsimp only at hSw)
            go_simp
            all_goals (with_reducible rfl)
          try simp only [Act.put, List.setIfInBounds_toArray, List.set_cons_zero, List.set_cons_succ]
          refine wpAnyT_one (i := 4) (o := { dst := some 62, op := Go.Op.call { callee := Go.Callee.value (Go.Operand.func 39), args := #[Go.Operand.tmp 61], argTypes := #[48] }, type := 51, pos := "law.go:106", after := #[{ on := 3, ground := Go.Ground.data }, { on := 2, ground := Go.Ground.chain }, { on := 2, ground := Go.Ground.guard }], guard := some (2, false) }) (by kernel_rfl) rfl (fun K hK => ?_)
          clear hHeld
          go_simp
          obtain ⟨_, hOw, _⟩ := M7.out.ow
          go_at_call 39
          refine (open_ow hOw hS').mono ?_
          rintro e w8 ⟨v8, rfl, ho8, _, hb8⟩
          have M8 := Lib.hid (M7.out.below hb8)
          have R8 := Lib.hid (RowR.of_own ho8)
          clear hOw M7 ho8 hb8
          go_wp2_with fail
          refine hK.out _ _ M8.out.six (fun hHeld => ?_)
          clear hK K
          try simp only [Act.put, List.setIfInBounds_toArray, List.set_cons_zero, List.set_cons_succ]
          refine wpAnyT_one (i := 6) (o := { dst := some 64, op := Go.Op.call { callee := Go.Callee.value (Go.Operand.func 47), args := #[Go.Operand.tmp 63], argTypes := #[67] }, type := 51, pos := "law.go:106", after := #[{ on := 5, ground := Go.Ground.data }, { on := 4, ground := Go.Ground.chain }, { on := 2, ground := Go.Ground.guard }], guard := some (2, false) }) (by kernel_rfl) rfl (fun K hK => ?_)
          clear hHeld
          go_simp
          obtain ⟨_, _, hRf⟩ := M8.out.ow
          go_at_call 47
          refine (ropen_any w8 _ _ S' hRf hS').mono ?_
          rintro e w9 ⟨v9, rfl, ho9, hb9⟩
          have M9 := Lib.hid (M8.out.below hb9)
          have R9 := Lib.hid (R8.out.below hb9)
          have Q9 := Lib.hid (RowR.of_own ho9)
          clear hRf M8 R8 ho9 hb9
          go_wp2_with fail
          refine hK.out _ _ M9.out.six (fun hHeld => ?_)
          clear hK K
          try simp only [Act.put, List.setIfInBounds_toArray, List.set_cons_zero, List.set_cons_succ]
          refine wpAnyT_one (i := 7) (o := { dst := some 65, op := Go.Op.call { callee := Go.Callee.value (Go.Operand.func 44), args := #[Go.Operand.tmp 62, Go.Operand.tmp 64], argTypes := #[51, 51] }, type := 4, pos := "law.go:106", after := #[{ on := 4, ground := Go.Ground.data }, { on := 6, ground := Go.Ground.data }, { on := 6, ground := Go.Ground.chain }, { on := 2, ground := Go.Ground.guard }], guard := some (2, false) }) (by kernel_rfl) rfl (fun K hK => ?_)
          clear hHeld
          go_simp
          go_at_call 44
          refine (words_same w9 v8 v9 S'.opn R9.out Q9.out (by omega)).mono ?_
          rintro e w10 ⟨rfl, hb10⟩
          have M10 := Lib.hid (M9.out.below hb10)
          clear M9 R9 Q9 hb10
          go_wp2_with fail
          refine hK.out _ _ M10.out.six (fun hHeld => ?_)
          clear hK K
          try simp only [Act.put, List.setIfInBounds_toArray, List.set_cons_zero, List.set_cons_succ]
          refine wpAnyT_take (i := 8) (oi := { dst := some 66, op := Go.Op.unOp Go.UnOp.not 4 (Go.Operand.tmp 65), type := 4, pos := "law.go:106", after := #[{ on := 7, ground := Go.Ground.data }, { on := 2, ground := Go.Ground.guard }], guard := some (2, false) }) (v := ?_) rfl (by kernel_rfl) (by kernel_rfl) (by kernel_rfl) (by kernel_rfl) (fun _ _ _ h => h) (Or.inl ⟨by rfl, ?_⟩) (by assumption) ?_
          rotate_left
          · intro w hSw
            (try dsimp only at hSw)
            go_simp
            all_goals (with_reducible rfl)
          try simp only [Act.put, List.setIfInBounds_toArray, List.set_cons_zero, List.set_cons_succ]
          refine wpAnyT_take (i := 9) (oi := { dst := some 67, op := Go.Op.pick (Go.Operand.tmp 60) (Go.Operand.const (Go.Value.bool true)) (Go.Operand.tmp 66), type := 4, pos := "law.go:106", after := #[{ on := 2, ground := Go.Ground.data }, { on := 8, ground := Go.Ground.data }], guard := none }) (v := ?_) rfl (by kernel_rfl) (by kernel_rfl) (by kernel_rfl) (by kernel_rfl) (fun _ _ _ h => h) (Or.inl ⟨by rfl, ?_⟩) (by assumption) ?_
          rotate_left
          · intro w hSw
            (try dsimp only at hSw)
            go_simp
            all_goals (with_reducible rfl)
          try simp only [Act.put, List.setIfInBounds_toArray, List.set_cons_zero, List.set_cons_succ]
          refine wpAnyT_take (i := 10) (oi := { dst := some 68, op := Go.Op.move (Go.Operand.tmp 67), type := 4, pos := "law.go:106", after := #[{ on := 9, ground := Go.Ground.data }, { on := 7, ground := Go.Ground.chain }], guard := none }) (v := ?_) rfl (by kernel_rfl) (by kernel_rfl) (by kernel_rfl) (by kernel_rfl) (fun _ _ _ h => h) (Or.inl ⟨by rfl, ?_⟩) (by assumption) ?_
          rotate_left
          · intro w hSw
            (try dsimp only at hSw)
            go_simp
            all_goals (with_reducible rfl)
          try simp only [Act.put, List.setIfInBounds_toArray, List.set_cons_zero, List.set_cons_succ]
          refine wpAnyT_take (i := 11) (oi := { dst := some 69, op := Go.Op.move (Go.Operand.tmp 5), type := 48, pos := "law.go:106", after := #[{ on := 10, ground := Go.Ground.guard }], guard := some (10, false) }) (v := ?_) rfl (by kernel_rfl) (by kernel_rfl) (by kernel_rfl) (by kernel_rfl) (fun _ _ _ h => h) (Or.inl ⟨by rfl, ?_⟩) (by assumption) ?_
          rotate_left
          · intro w hSw
            (try dsimp only at hSw)
            go_simp
            all_goals (with_reducible rfl)
          try simp only [Act.put, List.setIfInBounds_toArray, List.set_cons_zero, List.set_cons_succ]
          refine wpAnyT_take (i := 13) (oi := { dst := some 71, op := Go.Op.load 67 (Go.Operand.tmp 10), type := 67, pos := "law.go:106", after := #[{ on := 10, ground := Go.Ground.guard }], guard := some (10, false) }) (v := ?_) rfl (by kernel_rfl) (by kernel_rfl) (by kernel_rfl) (by kernel_rfl) (fun _ _ _ h => h) (Or.inl ⟨by rfl, ?_⟩) (by assumption) ?_
          rotate_left
          · intro w hSw
            (try dsimp only at hSw)
            go_simp
            all_goals (with_reducible rfl)
          try simp only [Act.put, List.setIfInBounds_toArray, List.set_cons_zero, List.set_cons_succ]
          refine wpAnyT_one (i := 12) (o := { dst := some 70, op := Go.Op.call { callee := Go.Callee.value (Go.Operand.func 43), args := #[Go.Operand.tmp 69], argTypes := #[48] }, type := 42, pos := "law.go:106", after := #[{ on := 11, ground := Go.Ground.data }, { on := 10, ground := Go.Ground.chain }, { on := 10, ground := Go.Ground.guard }], guard := some (10, false) }) (by kernel_rfl) rfl (fun K hK => ?_)
          clear hHeld
          go_simp
          obtain ⟨_, hOw, _⟩ := M10.out.ow
          go_at_call 43
          refine (said_ow hOw hS').mono ?_
          rintro e w11 ⟨v11, rfl, hr11, _, hb11⟩
          have M11 := Lib.hid (M10.out.below hb11)
          have R11 := Lib.hid hr11
          clear hOw M10 hr11 hb11
          go_wp2_with fail
          refine hK.out _ _ M11.out.six (fun hHeld => ?_)
          clear hK K
          try simp only [Act.put, List.setIfInBounds_toArray, List.set_cons_zero, List.set_cons_succ]
          refine wpAnyT_one (i := 14) (o := { dst := some 72, op := Go.Op.call { callee := Go.Callee.value (Go.Operand.func 48), args := #[Go.Operand.tmp 71], argTypes := #[67] }, type := 42, pos := "law.go:106", after := #[{ on := 13, ground := Go.Ground.data }, { on := 12, ground := Go.Ground.chain }, { on := 10, ground := Go.Ground.guard }], guard := some (10, false) }) (by kernel_rfl) rfl (fun K hK => ?_)
          clear hHeld
          go_simp
          obtain ⟨_, _, hRf⟩ := M11.out.ow
          go_at_call 48
          refine (rsaid_any w11 _ _ S' hRf hS').mono ?_
          rintro e w12 ⟨v12, rfl, hr12, hb12⟩
          have M12 := Lib.hid (M11.out.below hb12)
          have R12 := Lib.hid (R11.out.below hb12)
          have Q12 := Lib.hid hr12
          clear hRf M11 R11 hr12 hb12
          go_wp2_with fail
          refine hK.out _ _ M12.out.six (fun hHeld => ?_)
          clear hK K
          try simp only [Act.put, List.setIfInBounds_toArray, List.set_cons_zero, List.set_cons_succ]
          refine wpAnyT_one (i := 15) (o := { dst := some 73, op := Go.Op.call { callee := Go.Callee.value (Go.Operand.func 36), args := #[Go.Operand.tmp 70, Go.Operand.tmp 72], argTypes := #[42, 42] }, type := 4, pos := "law.go:106", after := #[{ on := 12, ground := Go.Ground.data }, { on := 14, ground := Go.Ground.data }, { on := 14, ground := Go.Ground.chain }, { on := 10, ground := Go.Ground.guard }], guard := some (10, false) }) (by kernel_rfl) rfl (fun K hK => ?_)
          clear hHeld
          go_simp
          go_at_call 36
          refine (texts_same w12 v11 v12 S'.said R12.out Q12.out (by have := last8_len S'.all; show (last8 S'.all).length ≤ 100000; omega)).mono ?_
          rintro e w13 ⟨rfl, hb13⟩
          have M13 := Lib.hid (M12.out.below hb13)
          clear M12 R12 Q12 hb13
          go_wp2_with fail
          refine hK.out _ _ M13.out.six (fun hHeld => ?_)
          clear hK K
          try simp only [Act.put, List.setIfInBounds_toArray, List.set_cons_zero, List.set_cons_succ]
          refine wpAnyT_take (i := 16) (oi := { dst := some 74, op := Go.Op.unOp Go.UnOp.not 4 (Go.Operand.tmp 73), type := 4, pos := "law.go:106", after := #[{ on := 15, ground := Go.Ground.data }, { on := 10, ground := Go.Ground.guard }], guard := some (10, false) }) (v := ?_) rfl (by kernel_rfl) (by kernel_rfl) (by kernel_rfl) (by kernel_rfl) (fun _ _ _ h => h) (Or.inl ⟨by rfl, ?_⟩) (by assumption) ?_
          rotate_left
          · intro w hSw
            (try dsimp only at hSw)
            go_simp
            all_goals (with_reducible rfl)
          try simp only [Act.put, List.setIfInBounds_toArray, List.set_cons_zero, List.set_cons_succ]
          refine wpAnyT_take (i := 17) (oi := { dst := some 75, op := Go.Op.pick (Go.Operand.tmp 68) (Go.Operand.const (Go.Value.bool true)) (Go.Operand.tmp 74), type := 4, pos := "law.go:106", after := #[{ on := 10, ground := Go.Ground.data }, { on := 16, ground := Go.Ground.data }], guard := none }) (v := ?_) rfl (by kernel_rfl) (by kernel_rfl) (by kernel_rfl) (by kernel_rfl) (fun _ _ _ h => h) (Or.inl ⟨by rfl, ?_⟩) (by assumption) ?_
          rotate_left
          · intro w hSw
            (try dsimp only at hSw)
            go_simp
            all_goals (with_reducible rfl)
          try simp only [Act.put, List.setIfInBounds_toArray, List.set_cons_zero, List.set_cons_succ]
          refine wpAnyT_done (by kernel_rfl) ?_ _
          obtain ⟨qB, qN⟩ := M13.out.old
          obtain ⟨c0, c1, c2, c3, c4, c5, cf, cl⟩ := blk_facts qB
          obtain ⟨d0, d1, d2, d3, d4, d5, df, dl⟩ := blk_facts qN
          clear qB qN hHeld
          go_wp2_with fail
          go_roundw
          case rel => exact ⟨i + 1, S', _, _, by go_num, by omega, by omega, hS', Lib.hid M13.out.take⟩
          case measure => simp [intOf]; omega
      · have hcase : (¬ (i : Int) < (L.length : Int)) ∨ ((i : Int) < (L.length : Int) ∧ ¬ (i : Int) < 24) := by omega
        have D := Lib.hid P.out.dn
        clear hlt HR HZ P
        rcases hcase with hz1 | ⟨hz1, hz2⟩
        all_goals
          go_wp2_with fail
          go_ret
          exact ⟨rfl, D.out⟩
end Go.Proofs.YtheemefggkcfbaaDoor
