import Derived.Test.YtheemefggkcfbaaDoorG1
namespace Go.Proofs.YtheemefggkcfbaaDoor
open Go Go.Lib Go.RowKit Go.Shelf
/-- New words: the first may begin a row. -/
def newGo (bk fx : Bool) : Nat → List (List UInt8) → List Spk
  | _, [] => []
  | k, x :: t => (x, (k == 0) && bk, fx) :: newGo bk fx (k + 1) t
def newW (bk fx : Bool) (L : List (List UInt8)) : List Spk := newGo bk fx 0 L
theorem newGo_drop (bk fx : Bool) (L : List (List UInt8)) (i : Nat) (h : i < L.length) : newGo bk fx i (L.drop i) = (L.getD i [], (i == 0) && bk, fx) :: newGo bk fx (i + 1) (L.drop (i + 1)) := by
  rw [List.drop_eq_getElem_cons h, List.getD_eq_getElem?_getD, List.getElem?_eq_getElem h]; rfl
theorem newGo_end (bk fx : Bool) (L : List (List UInt8)) (k : Nat) : newGo bk fx k (L.drop L.length) = [] := by rw [List.drop_length]; rfl
theorem newGo_len (bk fx : Bool) : ∀ (L : List (List UInt8)) (k : Nat), (newGo bk fx k L).length = L.length
  | [], k => rfl
  | x :: t, k => by simp [newGo, newGo_len bk fx t]
def Sp.say (S : Sp) (l : List UInt8) : Sp × Int :=
  if spkE l ≠ 0 then (S, spkE l) else if 400 < S.opn.length + (spkL l).length then (S, 9) else ({ S with opn := S.opn ++ newW S.brk false (spkL l), brk := false }, 0)
theorem say_bad {S : Sp} {l : List UInt8} (h : spkE l ≠ 0) : S.say l = (S, spkE l) := by unfold Sp.say; rw [if_pos h]
theorem say_full {S : Sp} {l : List UInt8} (h : spkE l = 0) (h2 : 400 < S.opn.length + (spkL l).length) : S.say l = (S, 9) := by unfold Sp.say; rw [if_neg (by simpa using h), if_pos h2]
theorem say_good {S : Sp} {l : List UInt8} (h : spkE l = 0) (h2 : ¬ 400 < S.opn.length + (spkL l).length) : S.say l = ({ S with opn := S.opn ++ newW S.brk false (spkL l), brk := false }, 0) := by unfold Sp.say; rw [if_neg (by simpa using h), if_neg h2]
/-- Behind an append to the open words. -/
theorem app59 {w wr W1 w1 : World} {O : Nat → Prop} {b g n m cap : Nat} {cs : Array Value} {vo : Value} {xs ys : List Value} (hW : Within O w wr) (h1 : wr.heap[b]? = some (.cells cs 88 (0, 0))) (how : wr.ownsRow 0 59 3 vo n xs)
    (hvo : ∀ k, vo.ownBlock = some k → grow O w wr k) (hW1 : Below wr.heap.size wr W1) (hgrow : W1.grownBy w1 vo.ownBlock) (hat : vo.ownBlock = some g ∨ g = W1.heap.size) (hlt : g < w1.heap.size) (_hown1 : w1.ownsRow 0 59 3 (.slice (some ⟨g, 0, none⟩) m cap) m ys) :
    w1.heap[b]? = some (.cells cs 88 (0, 0)) ∧ Within O w w1 ∧ grow O w w1 g := by
  have hne : some b ≠ vo.ownBlock := by
    intro e
    rcases how.2 with h | ⟨g', cap', cur, rfl, _, hg, _⟩
    · rw [h.1] at e; cases e
    · injection e with e
      subst e
      rw [hg] at h1
      injection h1 with h1
      injection h1 with _ h1 _
      cases h1
  have hz1 := hW1.size
  have hz2 := hgrow.size
  have hz0 := hW.size
  refine ⟨by rw [hgrow.block b (by have := heap_lt h1; omega) hne]; exact blk_stay h1 hW1, ⟨by rw [hgrow.os, hW1.os, hW.os], by rw [hgrow.tape, hW1.tape, hW.tape], by rw [hgrow.output, hW1.output, hW.output], by omega, fun k hk hn => ?_⟩, ?_⟩
  · rw [hgrow.block k (by omega) (by
      intro e
      rcases hvo k e.symm with h | h
      · exact hn h
      · omega), hW1.block k (by omega), hW.block k hk hn]
  · rcases hat with h | h
    · rcases hvo g h with h | h
      · exact Or.inl h
      · exact Or.inr ⟨h.1, hlt⟩
    · exact Or.inr ⟨by omega, hlt⟩
theorem keep59 {wr W1 w1 : World} {B E s n m : Nat} {vo u : Value} {xs ys : List Value} (hE : E ≠ 59) (hrow : wr.ownsRow B E s u m ys) (how : wr.ownsRow 0 59 3 vo n xs) (hW1 : Below wr.heap.size wr W1) (hgrow : W1.grownBy w1 vo.ownBlock) : w1.ownsRow B E s u m ys :=
  (own_stays hrow hW1).kept hgrow (rows_apart (fun e => hE e.symm) (own_stays how hW1) (own_stays hrow hW1))
theorem blk_ne {w : World} {b E' s n : Nat} {E : TypeId} {cs : Array Value} {v : Value} {xs : List Value} (hE : E ≠ E') (h : w.heap[b]? = some (.cells cs E (0, 0))) (ho : w.ownsRow 0 E' s v n xs) : v.ownBlock ≠ some b := by
  intro e
  rcases ho.2 with h2 | ⟨g', cap', cur, rfl, _, hg, _⟩
  · rw [h2.1] at e; cases e
  · injection e with e
    subst e
    rw [hg] at h
    injection h with h
    injection h with _ h _
    exact hE h.symm
theorem open_step {d d' : List Spk} {x : Spk} {n : Nat} {w : World} {v : Value} (h : w.ownsRow 0 59 3 v (n + 1) (scells d ++ scell x)) (hn : n = d.length) (he : d' = d ++ [x]) : w.ownsRow 0 59 3 v d'.length (scells d') := by
  subst hn he
  rw [List.length_append, scells_app]
  simpa [scells] using h
set_option maxHeartbeats 8000000 in
set_option maxRecDepth 100000 in
theorem say_any (w : World) (O : Nat → Prop) (b : Nat) (S : Sp) (t : ByteArray) (h : SpAt w O b S) (hS : S.ok) (ht : t.size ≤ 65536) (hE : Env w) :
    Calls Tryd.prog 38 #[ptr b, .string t] w fun e w' => e = .returned (.int .i64 (S.say t.data.toList).2) ∧ SpAt w' (grow O w w') b (S.say t.data.toList).1 ∧ Within O w w' := by
  obtain ⟨i0, hi, iz0, iz1, iz2⟩ := info_parts info59
  have c := spk_any t w ht hE
  have Hbad := Lib.hid (@say_bad S t.data.toList)
  have Hfull := Lib.hid (@say_full S t.data.toList)
  have Hgood := Lib.hid (@say_good S t.data.toList)
  have hLl : (spkL t.data.toList).length ≤ t.size + 1 := by
    unfold spkL
    split
    · have h := spW_len t.data.toList
      rw [← size_eq] at h; exact h
    · simp
  generalize S.say t.data.toList = R at *
  generalize spkE t.data.toList = E at *
  generalize spkL t.data.toList = L at *
  have hh := h
  obtain ⟨vo, vt, h1, h2, h3, h4, h5, h6⟩ := h
  have hlen := hS.len
  go_enter Tryd.func38, Tryd.ntmps38
  go_wp2_with fail
  refine c.mono ?_
  rintro e w1 ⟨v, rfl, ho, hb⟩
  obtain ⟨a, cp, rfl⟩ := own_len ho
  by_cases hE0 : E = 0
  · subst hE0
    have h1' := blk_stay h1 hb
    have h2' := own_stays h2 hb
    have h3' := own_stays h3 hb
    obtain ⟨c0, c1, c2, c3, c4, c5, hf, hlt⟩ := blk_facts h1'
    obtain ⟨ao, co, rfl⟩ := own_len h2'
    by_cases hfull : 400 < S.opn.length + L.length
    · have HR := Lib.hid (Hfull.out rfl hfull)
      have hz : (400 : Int) < (S.opn.length : Int) + (L.length : Int) := by omega
      go_wp2_with fail
      go_ret
      rw [HR.out]
      exact ⟨rfl, (hh.below hb).weaken (fun k hk => Or.inl hk), Within.of_below hb⟩
    have hz : ¬ (400 : Int) < (S.opn.length : Int) + (L.length : Int) := by omega
    have HR := Lib.hid (Hgood.out rfl hfull)
    clear Hbad Hfull Hgood
    go_wp2_with fail
    have HT : Hid (R.1.opn = S.opn ++ newGo S.brk false 0 L ∧ R.1 = { S with opn := R.1.opn, brk := false } ∧ R.2 = 0) := Lib.hid (by rw [HR.out]; exact ⟨rfl, rfl, rfl⟩)
    have hsz := hb.size
    clear c0 c1 c2 c3 c4 c5 hf hlt HR
    go_loopw [30] (fun iv wx => ∃ (i : Nat) (d : List Spk) (u : Value), iv = .int .i64 i ∧ i ≤ L.length ∧ d.length ≤ S.opn.length + i ∧ wx.heap[b]? = some (.cells (spc S.hold u S.mark S.free vt S.brk) 88 (0, 0)) ∧ wx.ownsRow 0 59 3 u d.length (scells d) ∧ wx.ownsRow 0 9 1 vt S.tkn.length (wcells S.tkn) ∧ (∀ k, u.ownBlock = some k → grow O w wx k) ∧ Within O w wx ∧ wx.ownsRow w.heap.size 9 1 (.slice a L.length cp) L.length (wcells L) ∧ Hid (d ++ newGo S.brk false i (L.drop i) = R.1.opn)) (fun v _ => L.length - (intOf v).toNat)
    case atStart => exact ⟨0, S.opn, _, rfl, Nat.zero_le _, by omega, h1', h2', h3', fun k hk => Or.inl (h5 k hk), Within.of_below hb, ho, Lib.hid (by rw [List.drop_zero]; exact HT.out.1.symm)⟩
    case round =>
      clear h1' h2' h3' ho hb h1 h2 h3 h5 hh c
      obtain ⟨i, d, u, rfl, hil, hd, h1, h2, h3, h5, hW, ho, HD⟩ := hrel
      have hsz := hW.size
      obtain ⟨c0, c1, c2, c3, c4, c5, hf, hlt⟩ := blk_facts h1
      by_cases hlt' : i < L.length
      · have hz : (i : Int) < (L.length : Int) := by omega
        obtain ⟨g, rfl, hg, hc⟩ := own_at ho i hlt'
        rw [strV_ba] at hc
        have HD2 := Lib.hid (HD.out.symm.trans (by rw [newGo_drop S.brk false L i hlt']))
        have hne := blk_ne (by decide) h1 h2
        have hne0 : some b ≠ u.ownBlock := fun e => hne e.symm
        have hf1 := hf 1
        have HK : Hid (∀ o : Obj, (wr.alloc o).drew.cell? ⟨b, 1, none⟩ = some u ∧ (wr.alloc o).drew.cell? ⟨b, 5, none⟩ = some (.bool S.brk) ∧ (wr.alloc o).drew.frozen? ⟨b, 1, none⟩ = false) := Lib.hid (fun o => by
          have hbb : Below wr.heap.size wr (wr.alloc o).drew := (below1 o (Nat.le_refl _)).drew
          exact ⟨(hbb.cell (p := ⟨b, 1, none⟩) hlt).trans c1, (hbb.cell (p := ⟨b, 5, none⟩) hlt).trans c5, (hbb.frozen (p := ⟨b, 1, none⟩) hlt).trans hf1⟩)
        generalize hY : L.getD i [] = Y at *
        clear hY
        by_cases hi0 : i = 0
        · subst hi0
          have hiz : ((0 : Int) == 0) = true := rfl
          go_wp2_with fail
          obtain ⟨hk1, hk2, hk3⟩ := HK.out (.cells #[.string (ba Y), .bool S.brk, .bool false] 59)
          refine wp_region_tail 17 (S := (fun w' => w'.cell? ⟨b, 1, none⟩ = some u ∧ w'.cell? ⟨b, 5, none⟩ = some (.bool S.brk) ∧ w'.frozen? ⟨b, 1, none⟩ = false)) (by kernel_rfl) ⟨c1, c5, hf1⟩ (fun hHeld => ?_)
          simp only [List.size_toArray, List.length_cons, List.length_nil, Nat.zero_add, Nat.reduceAdd]
          refine wpAnyT_take (i := 0) (oi := { dst := some 35, op := Go.Op.move (Go.Operand.tmp 0), type := 48, pos := "respeak.go:78", after := #[], guard := none }) (v := ?av0) rfl (by kernel_rfl) (by kernel_rfl) (by kernel_rfl) (by kernel_rfl) (fun _ _ _ h => h) (Or.inl ⟨by rfl, ?ay0⟩) (by assumption) ?ar0
          case ay0 =>
            intro w hSw
            (try dsimp only at hSw)
            go_simp
            all_goals (with_reducible rfl)
          try simp only [Act.put, List.setIfInBounds_toArray, List.set_cons_zero, List.set_cons_succ]
          refine wpAnyT_take (i := 1) (oi := { dst := some 36, op := Go.Op.move (Go.Operand.tmp 0), type := 48, pos := "respeak.go:78", after := #[], guard := none }) (v := ?av1) rfl (by kernel_rfl) (by kernel_rfl) (by kernel_rfl) (by kernel_rfl) (fun _ _ _ h => h) (Or.inl ⟨by rfl, ?ay1⟩) (by assumption) ?ar1
          case ay1 =>
            intro w hSw
            (try dsimp only at hSw)
            go_simp
            all_goals (with_reducible rfl)
          try simp only [Act.put, List.setIfInBounds_toArray, List.set_cons_zero, List.set_cons_succ]
          refine wpAnyT_take (i := 2) (oi := { dst := some 37, op := Go.Op.nilCheck (Go.Operand.tmp 36), type := 0, pos := "respeak.go:78", after := #[{ on := 1, ground := Go.Ground.data }], guard := none }) (v := ?av2) rfl (by kernel_rfl) (by kernel_rfl) (by kernel_rfl) (by kernel_rfl) (fun _ _ _ h => h) (Or.inl ⟨by rfl, ?ay2⟩) (by assumption) ?ar2
          case ay2 =>
            intro w hSw
            (try dsimp only at hSw)
            go_simp
            all_goals (with_reducible rfl)
          try simp only [Act.put, List.setIfInBounds_toArray, List.set_cons_zero, List.set_cons_succ]
          refine wpAnyT_take (i := 3) (oi := { dst := some 38, op := Go.Op.fieldAddr 88 (Go.Operand.tmp 37) 1, type := 0, pos := "respeak.go:78", after := #[{ on := 2, ground := Go.Ground.data }], guard := none }) (v := ?av3) rfl (by kernel_rfl) (by kernel_rfl) (by kernel_rfl) (by kernel_rfl) (fun _ _ _ h => h) (Or.inl ⟨by rfl, ?ay3⟩) (by assumption) ?ar3
          case ay3 =>
            intro w hSw
            (try dsimp only at hSw)
            go_simp
            all_goals (with_reducible rfl)
          try simp only [Act.put, List.setIfInBounds_toArray, List.set_cons_zero, List.set_cons_succ]
          refine wpAnyT_take (i := 4) (oi := { dst := some 39, op := Go.Op.load 51 (Go.Operand.tmp 38), type := 51, pos := "respeak.go:78", after := #[{ on := 3, ground := Go.Ground.data }], guard := none }) (v := ?av4) rfl (by kernel_rfl) (by kernel_rfl) (by kernel_rfl) (by kernel_rfl) (fun _ _ _ h => h) (Or.inl ⟨by rfl, ?ay4⟩) (by assumption) ?ar4
          case ay4 =>
            intro w hSw
            (try dsimp only at hSw)
            go_simp
            all_goals (with_reducible rfl)
          try simp only [Act.put, List.setIfInBounds_toArray, List.set_cons_zero, List.set_cons_succ]
          refine wpAnyT_take (i := 5) (oi := { dst := some 40, op := Go.Op.move (Go.Operand.tmp 8), type := 9, pos := "respeak.go:78", after := #[], guard := none }) (v := ?av5) rfl (by kernel_rfl) (by kernel_rfl) (by kernel_rfl) (by kernel_rfl) (fun _ _ _ h => h) (Or.inl ⟨by rfl, ?ay5⟩) (by assumption) ?ar5
          case ay5 =>
            intro w hSw
            (try dsimp only at hSw)
            go_simp
            all_goals (with_reducible rfl)
          try simp only [Act.put, List.setIfInBounds_toArray, List.set_cons_zero, List.set_cons_succ]
          refine wpAnyT_take (i := 6) (oi := { dst := some 41, op := Go.Op.move (Go.Operand.tmp 7), type := 3, pos := "respeak.go:78", after := #[], guard := none }) (v := ?av6) rfl (by kernel_rfl) (by kernel_rfl) (by kernel_rfl) (by kernel_rfl) (fun _ _ _ h => h) (Or.inl ⟨by rfl, ?ay6⟩) (by assumption) ?ar6
          case ay6 =>
            intro w hSw
            (try dsimp only at hSw)
            go_simp
            all_goals (with_reducible rfl)
          try simp only [Act.put, List.setIfInBounds_toArray, List.set_cons_zero, List.set_cons_succ]
          refine wpAnyT_take (i := 7) (oi := { dst := some 42, op := Go.Op.binOp Go.BinOp.eql 3 (Go.Operand.tmp 41) (Go.Operand.const (Go.Value.int Go.IntKind.i64 0)) 3, type := 4, pos := "respeak.go:78", after := #[{ on := 6, ground := Go.Ground.data }], guard := none }) (v := ?av7) rfl (by kernel_rfl) (by kernel_rfl) (by kernel_rfl) (by kernel_rfl) (fun _ _ _ h => h) (Or.inl ⟨by rfl, ?ay7⟩) (by assumption) ?ar7
          case ay7 =>
            intro w hSw
            (try dsimp only at hSw)
            go_simp
            all_goals (with_reducible rfl)
          try simp only [Act.put, List.setIfInBounds_toArray, List.set_cons_zero, List.set_cons_succ]
          refine wpAnyT_take (i := 8) (oi := { dst := some 43, op := Go.Op.move (Go.Operand.tmp 42), type := 4, pos := "respeak.go:78", after := #[{ on := 7, ground := Go.Ground.data }], guard := none }) (v := ?av8) rfl (by kernel_rfl) (by kernel_rfl) (by kernel_rfl) (by kernel_rfl) (fun _ _ _ h => h) (Or.inl ⟨by rfl, ?ay8⟩) (by assumption) ?ar8
          case ay8 =>
            intro w hSw
            (try dsimp only at hSw)
            go_simp
            all_goals (with_reducible rfl)
          try simp only [Act.put, List.setIfInBounds_toArray, List.set_cons_zero, List.set_cons_succ]
          refine wpAnyT_take (i := 9) (oi := { dst := some 44, op := Go.Op.move (Go.Operand.tmp 0), type := 48, pos := "respeak.go:78", after := #[{ on := 8, ground := Go.Ground.guard }], guard := some (8, true) }) (v := ?av9) rfl (by kernel_rfl) (by kernel_rfl) (by kernel_rfl) (by kernel_rfl) (fun _ _ _ h => h) (Or.inl ⟨by rfl, ?ay9⟩) (by assumption) ?ar9
          case ay9 =>
            intro w hSw
            (try dsimp only at hSw)
            go_simp
            all_goals (with_reducible rfl)
          try simp only [Act.put, List.setIfInBounds_toArray, List.set_cons_zero, List.set_cons_succ]
          refine wpAnyT_take (i := 10) (oi := { dst := some 45, op := Go.Op.nilCheck (Go.Operand.tmp 44), type := 0, pos := "respeak.go:78", after := #[{ on := 9, ground := Go.Ground.data }, { on := 8, ground := Go.Ground.guard }], guard := some (8, true) }) (v := ?av10) rfl (by kernel_rfl) (by kernel_rfl) (by kernel_rfl) (by kernel_rfl) (fun _ _ _ h => h) (Or.inl ⟨by rfl, ?ay10⟩) (by assumption) ?ar10
          case ay10 =>
            intro w hSw
            (try dsimp only at hSw)
            go_simp
            all_goals (with_reducible rfl)
          try simp only [Act.put, List.setIfInBounds_toArray, List.set_cons_zero, List.set_cons_succ]
          refine wpAnyT_take (i := 11) (oi := { dst := some 46, op := Go.Op.fieldAddr 88 (Go.Operand.tmp 45) 5, type := 0, pos := "respeak.go:78", after := #[{ on := 10, ground := Go.Ground.data }, { on := 8, ground := Go.Ground.guard }], guard := some (8, true) }) (v := ?av11) rfl (by kernel_rfl) (by kernel_rfl) (by kernel_rfl) (by kernel_rfl) (fun _ _ _ h => h) (Or.inl ⟨by rfl, ?ay11⟩) (by assumption) ?ar11
          case ay11 =>
            intro w hSw
            (try dsimp only at hSw)
            go_simp
            all_goals (with_reducible rfl)
          try simp only [Act.put, List.setIfInBounds_toArray, List.set_cons_zero, List.set_cons_succ]
          refine wpAnyT_take (i := 12) (oi := { dst := some 47, op := Go.Op.load 4 (Go.Operand.tmp 46), type := 4, pos := "respeak.go:78", after := #[{ on := 11, ground := Go.Ground.data }, { on := 8, ground := Go.Ground.guard }], guard := some (8, true) }) (v := ?av12) rfl (by kernel_rfl) (by kernel_rfl) (by kernel_rfl) (by kernel_rfl) (fun _ _ _ h => h) (Or.inl ⟨by rfl, ?ay12⟩) (by assumption) ?ar12
          case ay12 =>
            intro w hSw
            (try dsimp only at hSw)
            go_simp
            all_goals (with_reducible rfl)
          try simp only [Act.put, List.setIfInBounds_toArray, List.set_cons_zero, List.set_cons_succ]
          refine wpAnyT_take (i := 13) (oi := { dst := some 48, op := Go.Op.pick (Go.Operand.tmp 43) (Go.Operand.tmp 47) (Go.Operand.const (Go.Value.bool false)), type := 4, pos := "respeak.go:78", after := #[{ on := 8, ground := Go.Ground.data }, { on := 12, ground := Go.Ground.data }], guard := none }) (v := ?av13) rfl (by kernel_rfl) (by kernel_rfl) (by kernel_rfl) (by kernel_rfl) (fun _ _ _ h => h) (Or.inl ⟨by rfl, ?ay13⟩) (by assumption) ?ar13
          case ay13 =>
            intro w hSw
            (try dsimp only at hSw)
            go_simp
            all_goals (with_reducible rfl)
          try simp only [Act.put, List.setIfInBounds_toArray, List.set_cons_zero, List.set_cons_succ]
          refine wpAnyT_take (i := 14) (oi := { dst := some 49, op := Go.Op.build 59 #[(0, Go.Operand.tmp 40), (1, Go.Operand.tmp 48)], type := 59, pos := "respeak.go:78", after := #[{ on := 5, ground := Go.Ground.data }, { on := 13, ground := Go.Ground.data }], guard := none }) (v := ?av14) rfl (by kernel_rfl) (by kernel_rfl) (by kernel_rfl) (by kernel_rfl) (fun _ _ _ h => h) (Or.inl ⟨by rfl, ?ay14⟩) (by assumption) ?ar14
          case ay14 =>
            intro w hSw
            (try dsimp only at hSw)
            go_simp
            all_goals (with_reducible rfl)
          try simp only [Act.put, List.setIfInBounds_toArray, List.set_cons_zero, List.set_cons_succ]
          refine wpAnyT_one (i := 15) (o := { dst := some 50, op := Go.Op.buildSlice 51 1 #[(0, Go.Operand.tmp 49)], type := 51, pos := "respeak.go:78", after := #[{ on := 14, ground := Go.Ground.data }], guard := none }) (by kernel_rfl) rfl (fun K hK => ?_)
          go_simp
          refine hK.out _ _ ⟨hk1, hk2, hk3⟩ (fun hHeld => ?_)
          clear hK K
          try simp only [Act.put, List.setIfInBounds_toArray, List.set_cons_zero, List.set_cons_succ]
          refine wpAnyT_one (i := 16) (o := { dst := some 51, op := Go.Op.call { callee := Go.Callee.builtin Go.Builtin.append, args := #[Go.Operand.tmp 39, Go.Operand.tmp 50], argTypes := #[51, 51] }, type := 51, pos := "respeak.go:78", after := #[{ on := 4, ground := Go.Ground.data }, { on := 15, ground := Go.Ground.data }, { on := 8, ground := Go.Ground.chain }], guard := none }) (by kernel_rfl) rfl (fun K hK => ?_)
          refine step_append_lies _ (by rfl) _ _ _ (by rfl) 0 59 i0 _ 3 24 Tryd.underlying51 hi iz0 iz1 iz2 rfl (by omega) u d.length (scells d) (by rfl) ((h2.alloc _).drew) ⟨wr.heap.size, 0, none⟩ 1 1 [.string (ba Y), .bool S.brk, .bool false] (by rfl) (by rfl) (World.news_of_block (cs := #[.string (ba Y), .bool S.brk, .bool false]) (t := 59) (fr := (0, 0)) (heap_alloc_new wr _)) (by simp [Value.oneCell']) (by omega) (by unfold maxLen; omega) (by omega) (by simp) (wr.heap.size + 1) (by simp) ?_
          intro gg cap w1 hown1 hgrow hat hltg
          have hq1 := (hgrow.cell_far ⟨b, 1, none⟩ (by simp; omega) hne0).trans hk1
          have hq5 := (hgrow.cell_far ⟨b, 5, none⟩ (by simp; omega) hne0).trans hk2
          have hq2 := (hgrow.frozen_far ⟨b, 1, none⟩ (by simp; omega) hne0).trans hk3
          refine hK.out _ _ ⟨hq1, hq5, hq2⟩ (fun hHeld => ?_)
          clear hK K
          try simp only [Act.put, List.setIfInBounds_toArray, List.set_cons_zero, List.set_cons_succ]
          refine wpAnyT_last (i := 17) (o := { dst := some 52, op := Go.Op.nilCheck (Go.Operand.tmp 35), type := 0, pos := "respeak.go:78", after := #[{ on := 0, ground := Go.Ground.data }, { on := 0, ground := Go.Ground.phase }, { on := 1, ground := Go.Ground.phase }, { on := 2, ground := Go.Ground.phase }, { on := 3, ground := Go.Ground.phase }, { on := 4, ground := Go.Ground.phase }, { on := 5, ground := Go.Ground.phase }, { on := 6, ground := Go.Ground.phase }, { on := 7, ground := Go.Ground.phase }, { on := 8, ground := Go.Ground.phase }, { on := 9, ground := Go.Ground.phase }, { on := 10, ground := Go.Ground.phase }, { on := 11, ground := Go.Ground.phase }, { on := 12, ground := Go.Ground.phase }, { on := 13, ground := Go.Ground.phase }, { on := 14, ground := Go.Ground.phase }, { on := 15, ground := Go.Ground.phase }, { on := 16, ground := Go.Ground.phase }], guard := none }) (by kernel_rfl) rfl (by decide) (fun K hK => ?_)
          go_simp
          refine hK.out _ _ ?_
          clear hK K
          try simp only [Act.put, List.setIfInBounds_toArray, List.set_cons_zero, List.set_cons_succ]
          refine wpAnyT_last (i := 18) (o := { dst := some 53, op := Go.Op.fieldAddr 88 (Go.Operand.tmp 52) 1, type := 0, pos := "respeak.go:78", after := #[{ on := 17, ground := Go.Ground.data }, { on := 0, ground := Go.Ground.phase }, { on := 1, ground := Go.Ground.phase }, { on := 2, ground := Go.Ground.phase }, { on := 3, ground := Go.Ground.phase }, { on := 4, ground := Go.Ground.phase }, { on := 5, ground := Go.Ground.phase }, { on := 6, ground := Go.Ground.phase }, { on := 7, ground := Go.Ground.phase }, { on := 8, ground := Go.Ground.phase }, { on := 9, ground := Go.Ground.phase }, { on := 10, ground := Go.Ground.phase }, { on := 11, ground := Go.Ground.phase }, { on := 12, ground := Go.Ground.phase }, { on := 13, ground := Go.Ground.phase }, { on := 14, ground := Go.Ground.phase }, { on := 15, ground := Go.Ground.phase }, { on := 16, ground := Go.Ground.phase }], guard := none }) (by kernel_rfl) rfl (by decide) (fun K hK => ?_)
          go_simp
          refine hK.out _ _ ?_
          clear hK K
          try simp only [Act.put, List.setIfInBounds_toArray, List.set_cons_zero, List.set_cons_succ]
          refine wpAnyT_last (i := 19) (o := { dst := none, op := Go.Op.store 51 (Go.Operand.tmp 53) (Go.Operand.tmp 51), type := 0, pos := "respeak.go:78", after := #[{ on := 18, ground := Go.Ground.data }, { on := 16, ground := Go.Ground.data }, { on := 16, ground := Go.Ground.chain }, { on := 0, ground := Go.Ground.phase }, { on := 1, ground := Go.Ground.phase }, { on := 2, ground := Go.Ground.phase }, { on := 3, ground := Go.Ground.phase }, { on := 4, ground := Go.Ground.phase }, { on := 5, ground := Go.Ground.phase }, { on := 6, ground := Go.Ground.phase }, { on := 7, ground := Go.Ground.phase }, { on := 8, ground := Go.Ground.phase }, { on := 9, ground := Go.Ground.phase }, { on := 10, ground := Go.Ground.phase }, { on := 11, ground := Go.Ground.phase }, { on := 12, ground := Go.Ground.phase }, { on := 13, ground := Go.Ground.phase }, { on := 14, ground := Go.Ground.phase }, { on := 15, ground := Go.Ground.phase }, { on := 16, ground := Go.Ground.phase }], guard := none }) (by kernel_rfl) rfl (by decide) (fun K hK => ?_)
          go_simp
          refine hK.out _ _ ?_
          clear hK K
          try simp only [Act.put, List.setIfInBounds_toArray, List.set_cons_zero, List.set_cons_succ]
          refine wpAnyT_done (by kernel_rfl) ?_ _
          all_goals
            obtain ⟨R1, R2, R3⟩ := app59 hW h1 h2 h5 (W1 := (wr.alloc (.cells #[.string (ba Y), .bool S.brk, .bool false] 59)).drew) (below1 _ (Nat.le_refl _)).drew hgrow (by simpa using hat) hltg hown1
            have R4 := keep59 (by decide) h3 h2 (W1 := (wr.alloc (.cells #[.string (ba Y), .bool S.brk, .bool false] 59)).drew) (below1 _ (Nat.le_refl _)).drew hgrow
            have R5 := keep59 (by decide) ho h2 (W1 := (wr.alloc (.cells #[.string (ba Y), .bool S.brk, .bool false] 59)).drew) (below1 _ (Nat.le_refl _)).drew hgrow
            have R6 := open_step (d' := d ++ [(Y, S.brk, false)]) (x := (Y, S.brk, false)) hown1 rfl rfl
            have R7 : (d ++ [(Y, S.brk, false)]).length = d.length + 1 := by simp
            clear hown1 hgrow hat h1 h2 h3 ho c0 c1 c2 c3 c4 c5 HK hq1 hq2 hq5 hk1 hk2 hk3 hHeld
            go_wp2_with fail
            go_roundw
            case rel => exact ⟨0 + 1, d ++ [(Y, S.brk, false)], _, by go_num, by omega, by omega, blk_set R1, row_far (by decide) R1 R6, row_far (by decide) R1 R4, fun k hk => by cases hk; exact (by simpa [grow] using R3), R2.set h4, row_far (by decide) R1 R5, Lib.hid (by rw [List.append_assoc]; exact HD2.out.symm)⟩
            case measure => simp [intOf]; omega
        · have hiz : ((i : Int) == 0) = false := by simp; omega
          have hin : (i == 0) = false := by simpa using hi0
          rw [hin, Bool.false_and] at HD2
          clear hin
          go_wp2_with fail
          obtain ⟨hk1, hk2, hk3⟩ := HK.out (.cells #[.string (ba Y), .bool false, .bool false] 59)
          refine wp_region_tail 17 (S := (fun w' => w'.cell? ⟨b, 1, none⟩ = some u ∧ w'.cell? ⟨b, 5, none⟩ = some (.bool S.brk) ∧ w'.frozen? ⟨b, 1, none⟩ = false)) (by kernel_rfl) ⟨c1, c5, hf1⟩ (fun hHeld => ?_)
          simp only [List.size_toArray, List.length_cons, List.length_nil, Nat.zero_add, Nat.reduceAdd]
          refine wpAnyT_take (i := 0) (oi := { dst := some 35, op := Go.Op.move (Go.Operand.tmp 0), type := 48, pos := "respeak.go:78", after := #[], guard := none }) (v := ?bv0) rfl (by kernel_rfl) (by kernel_rfl) (by kernel_rfl) (by kernel_rfl) (fun _ _ _ h => h) (Or.inl ⟨by rfl, ?by0⟩) (by assumption) ?br0
          case by0 =>
            intro w hSw
            (try dsimp only at hSw)
            go_simp
            all_goals (with_reducible rfl)
          try simp only [Act.put, List.setIfInBounds_toArray, List.set_cons_zero, List.set_cons_succ]
          refine wpAnyT_take (i := 1) (oi := { dst := some 36, op := Go.Op.move (Go.Operand.tmp 0), type := 48, pos := "respeak.go:78", after := #[], guard := none }) (v := ?bv1) rfl (by kernel_rfl) (by kernel_rfl) (by kernel_rfl) (by kernel_rfl) (fun _ _ _ h => h) (Or.inl ⟨by rfl, ?by1⟩) (by assumption) ?br1
          case by1 =>
            intro w hSw
            (try dsimp only at hSw)
            go_simp
            all_goals (with_reducible rfl)
          try simp only [Act.put, List.setIfInBounds_toArray, List.set_cons_zero, List.set_cons_succ]
          refine wpAnyT_take (i := 2) (oi := { dst := some 37, op := Go.Op.nilCheck (Go.Operand.tmp 36), type := 0, pos := "respeak.go:78", after := #[{ on := 1, ground := Go.Ground.data }], guard := none }) (v := ?bv2) rfl (by kernel_rfl) (by kernel_rfl) (by kernel_rfl) (by kernel_rfl) (fun _ _ _ h => h) (Or.inl ⟨by rfl, ?by2⟩) (by assumption) ?br2
          case by2 =>
            intro w hSw
            (try dsimp only at hSw)
            go_simp
            all_goals (with_reducible rfl)
          try simp only [Act.put, List.setIfInBounds_toArray, List.set_cons_zero, List.set_cons_succ]
          refine wpAnyT_take (i := 3) (oi := { dst := some 38, op := Go.Op.fieldAddr 88 (Go.Operand.tmp 37) 1, type := 0, pos := "respeak.go:78", after := #[{ on := 2, ground := Go.Ground.data }], guard := none }) (v := ?bv3) rfl (by kernel_rfl) (by kernel_rfl) (by kernel_rfl) (by kernel_rfl) (fun _ _ _ h => h) (Or.inl ⟨by rfl, ?by3⟩) (by assumption) ?br3
          case by3 =>
            intro w hSw
            (try dsimp only at hSw)
            go_simp
            all_goals (with_reducible rfl)
          try simp only [Act.put, List.setIfInBounds_toArray, List.set_cons_zero, List.set_cons_succ]
          refine wpAnyT_take (i := 4) (oi := { dst := some 39, op := Go.Op.load 51 (Go.Operand.tmp 38), type := 51, pos := "respeak.go:78", after := #[{ on := 3, ground := Go.Ground.data }], guard := none }) (v := ?bv4) rfl (by kernel_rfl) (by kernel_rfl) (by kernel_rfl) (by kernel_rfl) (fun _ _ _ h => h) (Or.inl ⟨by rfl, ?by4⟩) (by assumption) ?br4
          case by4 =>
            intro w hSw
            (try dsimp only at hSw)
            go_simp
            all_goals (with_reducible rfl)
          try simp only [Act.put, List.setIfInBounds_toArray, List.set_cons_zero, List.set_cons_succ]
          refine wpAnyT_take (i := 5) (oi := { dst := some 40, op := Go.Op.move (Go.Operand.tmp 8), type := 9, pos := "respeak.go:78", after := #[], guard := none }) (v := ?bv5) rfl (by kernel_rfl) (by kernel_rfl) (by kernel_rfl) (by kernel_rfl) (fun _ _ _ h => h) (Or.inl ⟨by rfl, ?by5⟩) (by assumption) ?br5
          case by5 =>
            intro w hSw
            (try dsimp only at hSw)
            go_simp
            all_goals (with_reducible rfl)
          try simp only [Act.put, List.setIfInBounds_toArray, List.set_cons_zero, List.set_cons_succ]
          refine wpAnyT_take (i := 6) (oi := { dst := some 41, op := Go.Op.move (Go.Operand.tmp 7), type := 3, pos := "respeak.go:78", after := #[], guard := none }) (v := ?bv6) rfl (by kernel_rfl) (by kernel_rfl) (by kernel_rfl) (by kernel_rfl) (fun _ _ _ h => h) (Or.inl ⟨by rfl, ?by6⟩) (by assumption) ?br6
          case by6 =>
            intro w hSw
            (try dsimp only at hSw)
            go_simp
            all_goals (with_reducible rfl)
          try simp only [Act.put, List.setIfInBounds_toArray, List.set_cons_zero, List.set_cons_succ]
          refine wpAnyT_take (i := 7) (oi := { dst := some 42, op := Go.Op.binOp Go.BinOp.eql 3 (Go.Operand.tmp 41) (Go.Operand.const (Go.Value.int Go.IntKind.i64 0)) 3, type := 4, pos := "respeak.go:78", after := #[{ on := 6, ground := Go.Ground.data }], guard := none }) (v := ?bv7) rfl (by kernel_rfl) (by kernel_rfl) (by kernel_rfl) (by kernel_rfl) (fun _ _ _ h => h) (Or.inl ⟨by rfl, ?by7⟩) (by assumption) ?br7
          case by7 =>
            intro w hSw
            (try dsimp only at hSw)
            go_simp
            all_goals (with_reducible rfl)
          try simp only [Act.put, List.setIfInBounds_toArray, List.set_cons_zero, List.set_cons_succ]
          refine wpAnyT_take (i := 8) (oi := { dst := some 43, op := Go.Op.move (Go.Operand.tmp 42), type := 4, pos := "respeak.go:78", after := #[{ on := 7, ground := Go.Ground.data }], guard := none }) (v := ?bv8) rfl (by kernel_rfl) (by kernel_rfl) (by kernel_rfl) (by kernel_rfl) (fun _ _ _ h => h) (Or.inl ⟨by rfl, ?by8⟩) (by assumption) ?br8
          case by8 =>
            intro w hSw
            (try dsimp only at hSw)
            go_simp
            all_goals (with_reducible rfl)
          try simp only [Act.put, List.setIfInBounds_toArray, List.set_cons_zero, List.set_cons_succ]
          refine wpAnyT_take (i := 9) (oi := { dst := some 44, op := Go.Op.move (Go.Operand.tmp 0), type := 48, pos := "respeak.go:78", after := #[{ on := 8, ground := Go.Ground.guard }], guard := some (8, true) }) (v := undef) rfl (by kernel_rfl) (by kernel_rfl) (by kernel_rfl) (by kernel_rfl) (fun _ _ _ h => h) (Or.inr ⟨by rfl, rfl⟩) (by assumption) ?_
          try simp only [Act.put, List.setIfInBounds_toArray, List.set_cons_zero, List.set_cons_succ]
          refine wpAnyT_take (i := 10) (oi := { dst := some 45, op := Go.Op.nilCheck (Go.Operand.tmp 44), type := 0, pos := "respeak.go:78", after := #[{ on := 9, ground := Go.Ground.data }, { on := 8, ground := Go.Ground.guard }], guard := some (8, true) }) (v := undef) rfl (by kernel_rfl) (by kernel_rfl) (by kernel_rfl) (by kernel_rfl) (fun _ _ _ h => h) (Or.inr ⟨by rfl, rfl⟩) (by assumption) ?_
          try simp only [Act.put, List.setIfInBounds_toArray, List.set_cons_zero, List.set_cons_succ]
          refine wpAnyT_take (i := 11) (oi := { dst := some 46, op := Go.Op.fieldAddr 88 (Go.Operand.tmp 45) 5, type := 0, pos := "respeak.go:78", after := #[{ on := 10, ground := Go.Ground.data }, { on := 8, ground := Go.Ground.guard }], guard := some (8, true) }) (v := undef) rfl (by kernel_rfl) (by kernel_rfl) (by kernel_rfl) (by kernel_rfl) (fun _ _ _ h => h) (Or.inr ⟨by rfl, rfl⟩) (by assumption) ?_
          try simp only [Act.put, List.setIfInBounds_toArray, List.set_cons_zero, List.set_cons_succ]
          refine wpAnyT_take (i := 12) (oi := { dst := some 47, op := Go.Op.load 4 (Go.Operand.tmp 46), type := 4, pos := "respeak.go:78", after := #[{ on := 11, ground := Go.Ground.data }, { on := 8, ground := Go.Ground.guard }], guard := some (8, true) }) (v := undef) rfl (by kernel_rfl) (by kernel_rfl) (by kernel_rfl) (by kernel_rfl) (fun _ _ _ h => h) (Or.inr ⟨by rfl, rfl⟩) (by assumption) ?_
          try simp only [Act.put, List.setIfInBounds_toArray, List.set_cons_zero, List.set_cons_succ]
          refine wpAnyT_take (i := 13) (oi := { dst := some 48, op := Go.Op.pick (Go.Operand.tmp 43) (Go.Operand.tmp 47) (Go.Operand.const (Go.Value.bool false)), type := 4, pos := "respeak.go:78", after := #[{ on := 8, ground := Go.Ground.data }, { on := 12, ground := Go.Ground.data }], guard := none }) (v := ?bv13) rfl (by kernel_rfl) (by kernel_rfl) (by kernel_rfl) (by kernel_rfl) (fun _ _ _ h => h) (Or.inl ⟨by rfl, ?by13⟩) (by assumption) ?br13
          case by13 =>
            intro w hSw
            (try dsimp only at hSw)
            go_simp
            all_goals (with_reducible rfl)
          try simp only [Act.put, List.setIfInBounds_toArray, List.set_cons_zero, List.set_cons_succ]
          refine wpAnyT_take (i := 14) (oi := { dst := some 49, op := Go.Op.build 59 #[(0, Go.Operand.tmp 40), (1, Go.Operand.tmp 48)], type := 59, pos := "respeak.go:78", after := #[{ on := 5, ground := Go.Ground.data }, { on := 13, ground := Go.Ground.data }], guard := none }) (v := ?bv14) rfl (by kernel_rfl) (by kernel_rfl) (by kernel_rfl) (by kernel_rfl) (fun _ _ _ h => h) (Or.inl ⟨by rfl, ?by14⟩) (by assumption) ?br14
          case by14 =>
            intro w hSw
            (try dsimp only at hSw)
            go_simp
            all_goals (with_reducible rfl)
          try simp only [Act.put, List.setIfInBounds_toArray, List.set_cons_zero, List.set_cons_succ]
          refine wpAnyT_one (i := 15) (o := { dst := some 50, op := Go.Op.buildSlice 51 1 #[(0, Go.Operand.tmp 49)], type := 51, pos := "respeak.go:78", after := #[{ on := 14, ground := Go.Ground.data }], guard := none }) (by kernel_rfl) rfl (fun K hK => ?_)
          go_simp
          refine hK.out _ _ ⟨hk1, hk2, hk3⟩ (fun hHeld => ?_)
          clear hK K
          try simp only [Act.put, List.setIfInBounds_toArray, List.set_cons_zero, List.set_cons_succ]
          refine wpAnyT_one (i := 16) (o := { dst := some 51, op := Go.Op.call { callee := Go.Callee.builtin Go.Builtin.append, args := #[Go.Operand.tmp 39, Go.Operand.tmp 50], argTypes := #[51, 51] }, type := 51, pos := "respeak.go:78", after := #[{ on := 4, ground := Go.Ground.data }, { on := 15, ground := Go.Ground.data }, { on := 8, ground := Go.Ground.chain }], guard := none }) (by kernel_rfl) rfl (fun K hK => ?_)
          refine step_append_lies _ (by rfl) _ _ _ (by rfl) 0 59 i0 _ 3 24 Tryd.underlying51 hi iz0 iz1 iz2 rfl (by omega) u d.length (scells d) (by rfl) ((h2.alloc _).drew) ⟨wr.heap.size, 0, none⟩ 1 1 [.string (ba Y), .bool false, .bool false] (by rfl) (by rfl) (World.news_of_block (cs := #[.string (ba Y), .bool false, .bool false]) (t := 59) (fr := (0, 0)) (heap_alloc_new wr _)) (by simp [Value.oneCell']) (by omega) (by unfold maxLen; omega) (by omega) (by simp) (wr.heap.size + 1) (by simp) ?_
          intro gg cap w1 hown1 hgrow hat hltg
          have hq1 := (hgrow.cell_far ⟨b, 1, none⟩ (by simp; omega) hne0).trans hk1
          have hq5 := (hgrow.cell_far ⟨b, 5, none⟩ (by simp; omega) hne0).trans hk2
          have hq2 := (hgrow.frozen_far ⟨b, 1, none⟩ (by simp; omega) hne0).trans hk3
          refine hK.out _ _ ⟨hq1, hq5, hq2⟩ (fun hHeld => ?_)
          clear hK K
          try simp only [Act.put, List.setIfInBounds_toArray, List.set_cons_zero, List.set_cons_succ]
          refine wpAnyT_last (i := 17) (o := { dst := some 52, op := Go.Op.nilCheck (Go.Operand.tmp 35), type := 0, pos := "respeak.go:78", after := #[{ on := 0, ground := Go.Ground.data }, { on := 0, ground := Go.Ground.phase }, { on := 1, ground := Go.Ground.phase }, { on := 2, ground := Go.Ground.phase }, { on := 3, ground := Go.Ground.phase }, { on := 4, ground := Go.Ground.phase }, { on := 5, ground := Go.Ground.phase }, { on := 6, ground := Go.Ground.phase }, { on := 7, ground := Go.Ground.phase }, { on := 8, ground := Go.Ground.phase }, { on := 9, ground := Go.Ground.phase }, { on := 10, ground := Go.Ground.phase }, { on := 11, ground := Go.Ground.phase }, { on := 12, ground := Go.Ground.phase }, { on := 13, ground := Go.Ground.phase }, { on := 14, ground := Go.Ground.phase }, { on := 15, ground := Go.Ground.phase }, { on := 16, ground := Go.Ground.phase }], guard := none }) (by kernel_rfl) rfl (by decide) (fun K hK => ?_)
          go_simp
          refine hK.out _ _ ?_
          clear hK K
          try simp only [Act.put, List.setIfInBounds_toArray, List.set_cons_zero, List.set_cons_succ]
          refine wpAnyT_last (i := 18) (o := { dst := some 53, op := Go.Op.fieldAddr 88 (Go.Operand.tmp 52) 1, type := 0, pos := "respeak.go:78", after := #[{ on := 17, ground := Go.Ground.data }, { on := 0, ground := Go.Ground.phase }, { on := 1, ground := Go.Ground.phase }, { on := 2, ground := Go.Ground.phase }, { on := 3, ground := Go.Ground.phase }, { on := 4, ground := Go.Ground.phase }, { on := 5, ground := Go.Ground.phase }, { on := 6, ground := Go.Ground.phase }, { on := 7, ground := Go.Ground.phase }, { on := 8, ground := Go.Ground.phase }, { on := 9, ground := Go.Ground.phase }, { on := 10, ground := Go.Ground.phase }, { on := 11, ground := Go.Ground.phase }, { on := 12, ground := Go.Ground.phase }, { on := 13, ground := Go.Ground.phase }, { on := 14, ground := Go.Ground.phase }, { on := 15, ground := Go.Ground.phase }, { on := 16, ground := Go.Ground.phase }], guard := none }) (by kernel_rfl) rfl (by decide) (fun K hK => ?_)
          go_simp
          refine hK.out _ _ ?_
          clear hK K
          try simp only [Act.put, List.setIfInBounds_toArray, List.set_cons_zero, List.set_cons_succ]
          refine wpAnyT_last (i := 19) (o := { dst := none, op := Go.Op.store 51 (Go.Operand.tmp 53) (Go.Operand.tmp 51), type := 0, pos := "respeak.go:78", after := #[{ on := 18, ground := Go.Ground.data }, { on := 16, ground := Go.Ground.data }, { on := 16, ground := Go.Ground.chain }, { on := 0, ground := Go.Ground.phase }, { on := 1, ground := Go.Ground.phase }, { on := 2, ground := Go.Ground.phase }, { on := 3, ground := Go.Ground.phase }, { on := 4, ground := Go.Ground.phase }, { on := 5, ground := Go.Ground.phase }, { on := 6, ground := Go.Ground.phase }, { on := 7, ground := Go.Ground.phase }, { on := 8, ground := Go.Ground.phase }, { on := 9, ground := Go.Ground.phase }, { on := 10, ground := Go.Ground.phase }, { on := 11, ground := Go.Ground.phase }, { on := 12, ground := Go.Ground.phase }, { on := 13, ground := Go.Ground.phase }, { on := 14, ground := Go.Ground.phase }, { on := 15, ground := Go.Ground.phase }, { on := 16, ground := Go.Ground.phase }], guard := none }) (by kernel_rfl) rfl (by decide) (fun K hK => ?_)
          go_simp
          refine hK.out _ _ ?_
          clear hK K
          try simp only [Act.put, List.setIfInBounds_toArray, List.set_cons_zero, List.set_cons_succ]
          refine wpAnyT_done (by kernel_rfl) ?_ _
          all_goals
            obtain ⟨R1, R2, R3⟩ := app59 hW h1 h2 h5 (W1 := (wr.alloc (.cells #[.string (ba Y), .bool false, .bool false] 59)).drew) (below1 _ (Nat.le_refl _)).drew hgrow (by simpa using hat) hltg hown1
            have R4 := keep59 (by decide) h3 h2 (W1 := (wr.alloc (.cells #[.string (ba Y), .bool false, .bool false] 59)).drew) (below1 _ (Nat.le_refl _)).drew hgrow
            have R5 := keep59 (by decide) ho h2 (W1 := (wr.alloc (.cells #[.string (ba Y), .bool false, .bool false] 59)).drew) (below1 _ (Nat.le_refl _)).drew hgrow
            have R6 := open_step (d' := d ++ [(Y, false, false)]) (x := (Y, false, false)) hown1 rfl rfl
            have R7 : (d ++ [(Y, false, false)]).length = d.length + 1 := by simp
            clear hown1 hgrow hat h1 h2 h3 ho c0 c1 c2 c3 c4 c5 HK hq1 hq2 hq5 hk1 hk2 hk3 hHeld
            go_wp2_with fail
            go_roundw
            case rel => exact ⟨i + 1, d ++ [(Y, false, false)], _, by go_num, by omega, by omega, blk_set R1, row_far (by decide) R1 R6, row_far (by decide) R1 R4, fun k hk => by cases hk; exact (by simpa [grow] using R3), R2.set h4, row_far (by decide) R1 R5, Lib.hid (by rw [List.append_assoc]; exact HD2.out.symm)⟩
            case measure => simp [intOf]; omega
      · obtain rfl : i = L.length := by omega
        have hz : ¬ (L.length : Int) < (L.length : Int) := by omega
        have HD2 := HD.out
        rw [newGo_end, List.append_nil] at HD2
        have HD2 := Lib.hid HD2
        go_wp2_with fail
        go_ret
        have e1 : R.1 = { S with opn := d, brk := false } := HT.out.2.1.trans (by rw [HD2.out])
        rw [e1]
        exact ⟨ret_int HT.out.2.2.symm, ⟨u, vt, blk_set h1, row_far (by decide) h1 h2, row_far (by decide) h1 h3, Or.inl h4, fun k hk => (by simpa [grow] using h5 k hk), fun k hk => Or.inl (h6 k hk)⟩, hW.set h4⟩
  · have HR := Lib.hid (Hbad.out hE0)
    have hEz : (E == 0) = false := by simpa using hE0
    clear Hbad Hfull Hgood
    go_wp2_with fail
    go_ret
    rw [HR.out]
    exact ⟨rfl, (hh.below hb).weaken (fun k hk => Or.inl hk), Within.of_below hb⟩
end Go.Proofs.YtheemefggkcfbaaDoor
