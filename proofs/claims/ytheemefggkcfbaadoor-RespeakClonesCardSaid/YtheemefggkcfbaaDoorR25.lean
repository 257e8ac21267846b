import Derived.Test.YtheemefggkcfbaaDoorV1
import Derived.IntWalk
namespace Go.Proofs.YtheemefggkcfbaaDoor
open Go Go.Lib Go.RowKit Go.Shelf
/-! ### Fix -/
theorem RowR.take3 {w : World} {n c k : Nat} {a : Option Addr} {l : List Spk} (h : RowR w 3 (.slice a n c) n (scells l)) (hk : k ≤ n) : RowR w 3 (.slice a k c) k (scells (l.take k)) := by
  obtain ⟨hl, h' | ⟨g, off, cap, e, hg, hc, hx⟩⟩ := h
  · injection h'.1 with e1 _ e3
    subst e1 e3
    obtain rfl : k = 0 := by omega
    exact ⟨rfl, Or.inl ⟨rfl, rfl⟩⟩
  · injection e with e1 _ e3
    subst e1 e3
    rw [scells_len] at hl
    refine ⟨by rw [scells_len, List.length_take]; omega, Or.inr ⟨g, off, c, rfl, hg, by omega, fun j u hu => ?_⟩⟩
    rw [← scells_take, List.getElem?_take] at hu
    split at hu
    · exact hx j u hu
    · cases hu
theorem own_take1 {w : World} {B n c k : Nat} {a : Option Addr} {l : List (List UInt8)} (h : w.ownsRow B 9 1 (.slice a n c) n (wcells l)) (hk : k ≤ n) : w.ownsRow B 9 1 (.slice a k c) k (wcells (l.take k)) := by
  obtain ⟨hl, h' | ⟨g, cap, cur, e, hg, hh, hc, hm, hs, hx⟩⟩ := h
  · injection h'.1 with e1 _ e3
    subst e1 e3
    obtain rfl : k = 0 := by omega
    exact ⟨rfl, Or.inl ⟨rfl, rfl⟩⟩
  · injection e with e1 _ e3
    subst e1 e3
    rw [wcells_len] at hl
    refine ⟨by rw [wcells_len, List.length_take]; omega, Or.inr ⟨g, c, cur, rfl, hg, hh, by omega, hm, hs, ?_⟩⟩
    rw [Nat.mul_one] at hx ⊢
    have e2 : wcells (l.take k) = (wcells l).take k := by simp [wcells, List.map_take]
    rw [e2, ← hx, List.take_take, Nat.min_eq_left hk]
theorem own_low {w : World} {B B' e s n : Nat} {v : Value} {xs : List Value} (h : w.ownsRow B e s v n xs) (hB : B' ≤ B) : w.ownsRow B' e s v n xs := by
  refine ⟨h.1, ?_⟩
  rcases h.2 with h2 | ⟨g, cap, cur, h2, hb, rest⟩
  · exact Or.inl h2
  · exact Or.inr ⟨g, cap, cur, h2, by omega, rest⟩
/-- The speaker as Fix makes it, k of the words being replaced by L. -/
def Sp.fixTo (S : Sp) (k : Nat) (L : List (List UInt8)) : Sp := if k ≤ S.count then S.fixIn k L else S.fixOut k L
theorem fix_to {S : Sp} {k : Nat} {l : List UInt8} (h1 : 1 ≤ k) (h8 : k ≤ 8) (h : spkE l = 0) (h2 : ¬ S.count + S.tkn.length < k) : S.fix (k : Int) l = S.cap (S.fixTo k (spkL l)) := by
  unfold Sp.fixTo
  split
  · exact fix_in h1 h8 h h2 (by assumption)
  · exact fix_out h1 h8 h h2 (by assumption)
theorem fixTo_rest {S : Sp} {k : Nat} {L : List (List UInt8)} : (S.fixTo k L).hold = S.hold ∧ (S.fixTo k L).brk = S.brk ∧ (S.fixTo k L).free = min S.free (S.opn.length - min k S.count) ∧ (S.fixTo k L).tkn = S.tkn.take (S.tkn.length - (k - S.count)) := by
  unfold Sp.fixTo
  split
  · rename_i h
    exact ⟨rfl, rfl, by rw [show min k S.count = k by omega]; rfl, by rw [show k - S.count = 0 by omega, Nat.sub_zero, List.take_length]; rfl⟩
  · rename_i h
    exact ⟨rfl, rfl, by rw [show min k S.count = S.count by omega]; rfl, rfl⟩
theorem fixTo_in {S : Sp} {k : Nat} {L : List (List UInt8)} (h : k ≤ S.count) : (S.fixTo k L).mark = S.mark ∧ S.opn.take (S.opn.length - k) ++ newW (S.opn.getD (S.opn.length - k) default).2.1 (S.opn.getD (S.opn.length - k) default).2.2 L = (S.fixTo k L).opn := by
  unfold Sp.fixTo; rw [if_pos h]; exact ⟨rfl, rfl⟩
theorem fixTo_out {S : Sp} {k : Nat} {L : List (List UInt8)} (h : ¬ k ≤ S.count) : (S.fixTo k L).mark = true ∧ (S.mark = true → S.opn.take (S.opn.length - S.count) ++ newW false true L = (S.fixTo k L).opn) ∧ (S.mark = false → (S.opn.take (S.opn.length - S.count) ++ [markS]) ++ newW false true L = (S.fixTo k L).opn) := by
  unfold Sp.fixTo; rw [if_neg h]
  refine ⟨rfl, fun e => ?_, fun e => ?_⟩
  · show _ = (_ ++ (if S.mark = true then [] else [markS])) ++ _
    rw [if_pos e, List.append_nil]
  · show _ = (_ ++ (if S.mark = true then [] else [markS])) ++ _
    rw [if_neg (by simp [e])]
theorem row9_far3 {w : World} {B b n : Nat} {cs : Array Value} {v x y z : Value} {xs : List Value} (ho : w.ownsRow B 9 1 v n xs) (h : w.heap[b]? = some (.cells cs 59 (0, 0))) :
    (((w.setCell ⟨b, 0, none⟩ x).setCell ⟨b, 1, none⟩ y).setCell ⟨b, 2, none⟩ z).ownsRow B 9 1 v n xs := by
  have hn : v.ownBlock ≠ some b := by
    intro e
    rcases ho.2 with h2 | ⟨g', cap', cur, rfl, _, hg, _⟩
    · rw [h2.1] at e; cases e
    · injection e with e
      subst e
      rw [hg] at h
      injection h with h
      injection h with _ h _
      exact absurd h (by decide)
  exact own_far (own_far (own_far ho hn) hn) hn
theorem open_stepB {B : Nat} {d d' : List Spk} {x : Spk} {n : Nat} {w : World} {v : Value} (h : w.ownsRow B 59 3 v (n + 1) (scells d ++ scell x)) (hn : n = d.length) (he : d' = d ++ [x]) : w.ownsRow B 59 3 v d'.length (scells d') := by
  subst hn he
  rw [List.length_append, scells_app]
  simpa [scells] using h
/-- Behind an append to the new open words: the rest stays. -/
theorem fix_app {w W w5 : World} {B g n cap : Nat} {L : List (List UInt8)} {vL v : Value} {o : Obj} {xs : List Value} {d' : List Spk} {bx : Array Value} (h4 : W.ownsRow w.heap.size 59 3 v n xs) (hn : v.ownBlock ≠ some B) (h6 : W.heap[B]? = some (.cells bx 59 (0, 0))) (h1 : Below w.heap.size w W)
    (h5 : W.ownsRow w.heap.size 9 1 vL L.length (wcells L)) (hgrow : (W.alloc o).grownBy w5 v.ownBlock) (hat : v.ownBlock = some g ∨ g = W.heap.size + 1) (_ho : w5.ownsRow w.heap.size 59 3 (.slice (some ⟨g, 0, none⟩) d'.length cap) d'.length (scells d')) :
    (Value.slice (some ⟨g, 0, none⟩) d'.length cap).ownBlock ≠ some B ∧ w5.heap[B]? = some (.cells bx 59 (0, 0)) ∧ Below w.heap.size w w5 ∧ w5.ownsRow w.heap.size 9 1 vL L.length (wcells L) := by
  have hB := heap_lt h6
  have hbb := below1 (B := W.heap.size) (w := W) o (Nat.le_refl _)
  have hz := hbb.size
  have h4' := own_stays h4 hbb
  refine ⟨fun e => ?_, ?_, app_step h4' (h1.trans (hbb.mono h1.size)) (by have := h1.size; omega) hgrow, (own_stays h5 hbb).kept hgrow (rows_apart (by decide) h4' (own_stays h5 hbb))⟩
  · injection e with e
    have e : g = B := e
    rcases hat with q | q
    · exact hn (by rw [q, e])
    · omega
  · rw [hgrow.block B (by omega) (fun e => hn e.symm)]
    exact blk_stay h6 hbb
theorem Within.drew {O : Nat → Prop} {a w : World} (h : Within O a w) : Within O a w.drew := ⟨h.os, h.tape, h.output, h.size, h.block⟩
/-- Where Fix stands ahead of the loop over the new words. -/
def FixMid (w : World) (L : List (List UInt8)) (vL : Value) (TT : Sp) (Bx : Nat) (v11 v13 : Value) (wx : World) : Prop :=
  ∃ (d : List Spk) (tx : Value) (bk fx : Bool), wx.ownsRow w.heap.size 59 3 v11 d.length (scells d) ∧ v11.ownBlock ≠ some Bx ∧ wx.heap[Bx]? = some (.cells #[tx, .bool bk, .bool fx] 59 (0, 0)) ∧
    v13 = .bool TT.mark ∧ d ++ newW bk fx L = TT.opn ∧ Below w.heap.size w wx ∧ d.length ≤ 401 ∧ wx.ownsRow w.heap.size 9 1 vL L.length (wcells L)
theorem cap_full {S T : Sp} (h : 400 < T.opn.length) : S.cap T = (S, 9) := by unfold Sp.cap; rw [if_pos h]
theorem cap_fits {S T : Sp} (h : ¬ 400 < T.opn.length) : S.cap T = (T, 0) := by unfold Sp.cap; rw [if_neg h]
set_option maxHeartbeats 8000000 in
set_option maxRecDepth 100000 in
theorem fix_any (w : World) (O : Nat → Prop) (b : Nat) (S : Sp) (k : Nat) (t : ByteArray) (h : SpAt w O b S) (hS : S.ok) (hk1 : 1 ≤ k) (hk8 : k ≤ 8) (ht : t.size ≤ 65536) (hE : Env w) :
    Calls Tryd.prog 42 #[ptr b, .int .i64 k, .string t] w fun e w' => e = .returned (.int .i64 (S.fix k t.data.toList).2) ∧ SpAt w' (grow O w w') b (S.fix k t.data.toList).1 ∧ Within O w w' := by
  have c := spk_any t w ht hE
  have Hbad := Lib.hid (@fix_bad S k t.data.toList hk1 hk8)
  have Hnone := Lib.hid (@fix_none S k t.data.toList hk1 hk8)
  have Hto := Lib.hid (@fix_to S k t.data.toList hk1 hk8)
  have hLl : (spkL t.data.toList).length ≤ 65537 := by
    unfold spkL
    split
    · have h := spW_len t.data.toList
      rw [← size_eq] at h; omega
    · simp
  have HT := Lib.hid h
  have HS := Lib.hid hS
  clear h hS
  generalize S.fix (k : Int) t.data.toList = R at *
  generalize spkE t.data.toList = E at *
  generalize spkL t.data.toList = L at *
  have hkz : ¬ (k : Int) < 1 := by omega
  have hkz2 : ¬ (8 : Int) < (k : Int) := by omega
  have hkd : (decide ((k : Int) < 1)) = false := by simp; omega
  go_enter Tryd.func42, Tryd.ntmps42
  go_wp2_with fail
  refine c.mono ?_
  rintro e w1 ⟨v, rfl, ho, hb⟩
  obtain ⟨a, cp, rfl⟩ := own_len ho
  clear c
  by_cases hE0 : E = 0
  · subst hE0
    have HT1 := Lib.hid (HT.out.below hb)
    have cc := counting_any w1 O b S HT1.out HS.out
    go_wp2_with fail
    refine cc.mono ?_
    rintro e w1' ⟨rfl, rfl⟩
    have hcl := count_le (S := S)
    have hlen := HS.out.len
    have htk := HS.out.tkn
    have hfr := HS.out.free
    have HC : Hid (S.count ≤ S.opn.length ∧ S.opn.length ≤ 400 ∧ S.tkn.length ≤ 8 ∧ S.free ≤ S.opn.length) := Lib.hid ⟨hcl, hlen, htk, hfr⟩
    have Htr := Lib.hid (@fixTo_rest S k L)
    obtain ⟨vo, vt, h1, h2, h3, h4, h5, h6⟩ := HT1.out
    have HB := Lib.hid h1
    have H2 := Lib.hid h2
    have H3 := Lib.hid h3
    obtain ⟨ao, co, rfl⟩ := own_len h2
    obtain ⟨at4, ct4, rfl⟩ := own_len h3
    obtain ⟨c0, c1, c2, c3, c4, c5, hf, hlt⟩ := blk_facts h1
    clear h1 h2 h3 h4 h5 h6 cc
    by_cases hno : S.count + S.tkn.length < k
    · have HR := Lib.hid (Hnone.out trivial hno)
      have hz : (S.count : Int) + (S.tkn.length : Int) < (k : Int) := by omega
      clear Hbad Hnone Hto
      go_wp2_with fail
      go_ret
      rw [HR.out]
      exact ⟨rfl, HT1.out.weaken (fun k hk => Or.inl hk), Within.of_below hb⟩
    · have HR := Lib.hid (Hto.out trivial hno)
      have hz : ¬ (S.count : Int) + (S.tkn.length : Int) < (k : Int) := by omega
      clear Hbad Hnone Hto
      have hMo := Lib.hid (@fixTo_in S k L)
      have hMu := Lib.hid (@fixTo_out S k L)
      have HKP : Hid (S.count ≤ S.opn.length ∧ S.opn.length ≤ 400 ∧ S.tkn.length ≤ 8 ∧ ¬ S.count + S.tkn.length < k) := Lib.hid ⟨hcl, hlen, htk, hno⟩
      obtain ⟨kp, hkp⟩ : ∃ kp : Nat, kp = S.opn.length - min k S.count := ⟨_, rfl⟩
      have hkr : (S.opn.length : Int) - min (k : Int) (S.count : Int) = (kp : Int) := by omega
      have hkp' := Lib.hid hkp
      have hkl : kp ≤ S.opn.length := by omega
      have hco : S.opn.length ≤ co := own_capR H2.out
      have c75 := clone59 w1' _ _ _ (RowR.take3 (RowR.of_own H2.out) hkl) (one_scells _) (by omega)
      clear hkp
      go_upto_region 12 with fail
      clear hkr hno hz hcl htk hfr
      go_wp2_with fail
      refine c75.mono ?_
      rintro e w2 ⟨v4, rfl, ho4, hb4⟩
      obtain ⟨a4, e4, rfl⟩ := own_len ho4
      have HB2 := Lib.hid (blk_stay HB.out hb4)
      have HO4 := Lib.hid (own_low (B' := w.heap.size) ho4 hb.size)
      have hB2 : w1'.heap.size ≤ w2.heap.size := hb4.size
      have HL2 := Lib.hid (own_stays ho hb4)
      have hbw2 := Lib.hid (hb.trans (hb4.mono hb.size))
      have HF4 : Hid (∀ k, (Value.slice a4 kp e4).ownBlock = some k → w1'.heap.size ≤ k ∧ k < w2.heap.size) := Lib.hid (fun k hk => ⟨own_from ho4 hk, RowR.own_lt ho4 hk⟩)
      clear c0 c1 c2 c3 c4 c5 hf hlt ho4 c75 ho
      have h1 := HB2.out
      obtain ⟨c0, c1, c2, c3, c4, c5, hf, hlt⟩ := blk_facts h1
      clear h1
      go_upto_if 66 with fail
      refine world_as (fun W => Below w.heap.size w W ∧ W.heap[b]? = some (.cells (spc S.hold (.slice ao S.opn.length co) S.mark S.free (.slice at4 S.tkn.length ct4) S.brk) 88 (0, 0)) ∧ W.ownsRow 0 59 3 (.slice ao S.opn.length co) S.opn.length (scells S.opn) ∧
          W.ownsRow w.heap.size 59 3 (.slice a4 kp e4) kp (scells (S.opn.take kp)) ∧ W.ownsRow w.heap.size 9 1 (.slice a L.length cp) L.length (wcells L) ∧ W.heap[w2.heap.size]? = some (.cells #[.string ⟨#[]⟩, .bool false, .bool true] 59 (0, 0)))
        ⟨hbw2.out.alloc (by have := hb.size; omega) _, blk_stay HB2.out (below1 _ (Nat.le_refl _)), own_stays (own_stays H2.out hb4) (below1 _ (Nat.le_refl _)), own_stays HO4.out (below1 _ (Nat.le_refl _)), own_stays HL2.out (below1 _ (Nat.le_refl _)), heap_alloc_new w2 _⟩ ?_
      rintro W ⟨k1, k2, k3, k4, k5, k6⟩
      have hwB : w.heap.size ≤ w2.heap.size := by have := hb.size; omega
      have HFB : Hid ((Value.slice a4 kp e4).ownBlock ≠ some w2.heap.size) := Lib.hid (fun e => by have := HF4.out _ e; omega)
      have HOB : Hid ((Value.slice ao S.opn.length co).ownBlock ≠ some w2.heap.size) := Lib.hid (fun e => by have := RowR.own_lt (own_stays H2.out hb4) e; omega)
      clear HB2 HO4 HL2 hbw2 HF4 c0 c1 c2 c3 c4 c5 hf hlt hB2 HB H2 H3 hb4
      generalize w2.heap.size = B at *
      clear w2
      go_cut [11, 13] (fun v11 v13 wx => FixMid w L (.slice a L.length cp) (S.fixTo k L) B v11 v13 wx)
      case first =>
        obtain ⟨c0, c1, c2, c3, c4, c5, hf, hlt⟩ := blk_facts k2
        obtain ⟨x0, x1, x2, xf, xlt⟩ := blk3 k6
        have hkk := HKP.out
        have K1 := Lib.hid k1
        have K3 := Lib.hid k3
        have K4 := Lib.hid k4
        have K5 := Lib.hid k5
        have K6 := Lib.hid k6
        have hdl : (S.opn.take kp).length = kp := by rw [List.length_take]; omega
        by_cases hko : k ≤ S.count
        · have HZ := Lib.hid (hMo.out hko)
          have hkz : (k : Int) ≤ (S.count : Int) := by omega
          have hpp : kp = S.opn.length - k := by have := hkp'.out; omega
          have hpz : kp < S.opn.length := by omega
          have hpz2 : (kp : Int) < (S.opn.length : Int) := by omega
          obtain ⟨g, rfl, hg⟩ : ∃ g, ao = some ⟨g, 0, none⟩ ∧ g < W.heap.size := by
            obtain ⟨g, c, e, _, hg⟩ := k3.form (by omega)
            injection e with e1 _ _
            exact ⟨g, e1, hg⟩
          obtain ⟨y0, y1, y2⟩ := RowR.at3 (RowR.of_own k3) kp hpz
          rw [Nat.zero_add] at y0 y1 y2
          have hgB : g ≠ B := fun e => HOB.out (by rw [← e]; rfl)
          have hgB2 : B ≠ g := hgB.symm
          rw [hpp.symm] at HZ
          have HDL := Lib.hid hdl
          clear k1 k3 k4 k5 k6 hdl hpp hkk
          generalize hY' : S.opn.getD kp default = Y at *
          go_wp2_with fail
          go_meet
          exact ⟨S.opn.take kp, _, Y.2.1, Y.2.2, by rw [HDL.out]; exact own_far (own_far (own_far K4.out HFB.out) HFB.out) HFB.out, HFB.out, set3 K6.out, by rw [HZ.out.1], HZ.out.2, ((K1.out.setCell hwB _).setCell hwB _).setCell hwB _, by rw [HDL.out]; omega, row9_far3 K5.out K6.out⟩
        · have HZ := Lib.hid (hMu.out hko)
          have hkz : ¬ (k : Int) ≤ (S.count : Int) := by omega
          have hpp : S.opn.length - S.count = kp := by have := hkp'.out; omega
          rw [hpp] at HZ
          have HDL := Lib.hid hdl
          have hxz : W.heap.size + 1 = (W.alloc (.cells #[.string ⟨#[45, 45]⟩, .bool false, .bool true] 59)).heap.size := by simp
          have HXZ := Lib.hid hxz
          have hbz' : w.heap.size ≤ (W.alloc (.cells #[.string ⟨#[45, 45]⟩, .bool false, .bool true] 59)).heap.size := by have := k1.size; simp; omega
          clear k1 k3 k4 k5 k6 hdl hpp hkk hxz
          cases hmk : S.mark
          · rw [hmk] at c2
            have HM := Lib.hid (HZ.out.2.2 hmk)
            have HM1 := Lib.hid HZ.out.1
            clear hmk HZ
            obtain ⟨i0, hi, iz0, iz1, iz2⟩ := info_parts info59
            go_wp2_with (at_builtin; refine wpList_append_lies _ rfl _ _ 51 rfl w.heap.size 59 i0 _ 3 24 Tryd.underlying51 hi iz0 iz1 iz2 rfl (by decide) (.slice a4 kp e4) kp _ rfl (K4.out.alloc _) ⟨W.heap.size, 0, none⟩ 1 1 [.string ⟨#[45, 45]⟩, .bool false, .bool true] rfl rfl (World.news_of_block (cs := #[.string ⟨#[45, 45]⟩, .bool false, .bool true]) (t := 59) (fr := (0, 0)) (heap_alloc_new W _)) (by simp [Value.oneCell']) (by decide) (by unfold maxLen; omega) (by omega) hbz' (W.heap.size + 1) (by simp) ?_)
            intro gg cap w5 hown hgrow hat hlt5
            have hq := open_stepB (d := S.opn.take kp) (d' := S.opn.take kp ++ [markS]) (x := markS) hown HDL.out.symm rfl
            have hdl' : (S.opn.take kp ++ [markS]).length = kp + 1 := by rw [List.length_append, HDL.out]; rfl
            have HQ := Lib.hid (fix_app (d' := S.opn.take kp ++ [markS]) K4.out HFB.out K6.out K1.out K5.out hgrow hat (by rw [hdl'] at hq ⊢; exact hq))
            have HQ2 := Lib.hid hq
            have HD2 := Lib.hid hdl'
            clear hown hgrow hat hq hdl' c0 c1 c2 c3 c4 c5 hf hlt x0 x1 x2 xf xlt
            go_wp2_with fail
            go_meet
            rw [← HD2.out]
            exact ⟨S.opn.take kp ++ [markS], _, false, true, by rw [HD2.out]; have := HQ2.out; rw [HD2.out] at this; exact this, HQ.out.1, HQ.out.2.1, by rw [HM1.out], HM.out, HQ.out.2.2.1, by rw [HD2.out]; omega, HQ.out.2.2.2⟩
          · rw [hmk] at c2
            have HM := Lib.hid (HZ.out.2.1 hmk)
            have HM1 := Lib.hid HZ.out.1
            clear hmk HZ
            go_wp2_with fail
            go_meet
            exact ⟨S.opn.take kp, _, false, true, by rw [HDL.out]; exact K4.out, HFB.out, K6.out, by rw [HM1.out], HM.out, K1.out, by rw [HDL.out]; omega, K5.out⟩
      case rest =>
        clear k1 k2 k3 k4 k5 k6 HFB HOB hMo hMu HT1 hb
        obtain ⟨d0, tx, bk, fx, q1, q2, q3, rfl, HD, q6, q7, q8⟩ := hcut
        obtain ⟨TT, hTT⟩ : ∃ TT, TT = S.fixTo k L := ⟨_, rfl⟩
        rw [← hTT] at HD HR Htr ⊢
        clear hTT
        have HD := Lib.hid HD
        go_wp2_with fail
        go_loopw [11, 82] (fun v11 iv wx => ∃ (i : Nat) (d : List Spk), iv = .int .i64 i ∧ i ≤ L.length ∧ d.length ≤ 401 + i ∧ wx.ownsRow w.heap.size 59 3 v11 d.length (scells d) ∧ v11.ownBlock ≠ some B ∧ wx.heap[B]? = some (.cells #[tx, .bool bk, .bool fx] 59 (0, 0)) ∧ Below w.heap.size w wx ∧ wx.ownsRow w.heap.size 9 1 (.slice a L.length cp) L.length (wcells L) ∧ Hid (d ++ newGo bk fx i (L.drop i) = TT.opn)) (fun _ v _ => L.length - (intOf v).toNat)
        case atStart => exact ⟨0, d0, rfl, Nat.zero_le _, by omega, q1, q2, q3, q6, q8, Lib.hid (by rw [List.drop_zero]; exact HD.out)⟩
        case round =>
          clear q1 q2 q3 q6 q7 q8 HD
          obtain ⟨i, d, rfl, hil, hd, q1, q2, q3, q6, q8, HD⟩ := hrel
          obtain ⟨a5, c5, rfl⟩ := own_len q1
          by_cases hlt' : i < L.length
          · have hz : (i : Int) < (L.length : Int) := by omega
            obtain ⟨g, rfl, hg, hc⟩ := own_at q8 i hlt'
            rw [strV_ba] at hc
            have HD2 := Lib.hid (HD.out.symm.trans (by rw [newGo_drop bk fx L i hlt']))
            obtain ⟨x0, x1, x2, xf, xlt⟩ := blk3 q3
            have Q := Lib.hid (And.intro q1 (And.intro q2 (And.intro q3 (And.intro q6 q8))))
            have hzz : ∀ o : Obj, w.heap.size ≤ (wr.alloc o).heap.size := fun o => by have := q6.size; simp; omega
            have HZZ := Lib.hid hzz
            obtain ⟨i0, hi, iz0, iz1, iz2⟩ := info_parts info59
            clear q1 q2 q3 q6 q8 HD hzz
            generalize hY : L.getD i [] = Y at *
            clear hY
            by_cases hi0 : i = 0
            · subst hi0
              have hiz : ((0 : Int) == 0) = true := rfl
              go_wp2_with (at_builtin; refine wpList_append_lies _ rfl _ _ 51 rfl w.heap.size 59 i0 _ 3 24 Tryd.underlying51 hi iz0 iz1 iz2 rfl (by decide) (.slice a5 d.length c5) d.length _ rfl (Q.out.1.alloc _) ⟨wr.heap.size, 0, none⟩ 1 1 [.string (ba Y), .bool bk, .bool fx] rfl rfl (World.news_of_block (cs := #[.string (ba Y), .bool bk, .bool fx]) (t := 59) (fr := (0, 0)) (heap_alloc_new wr _)) (by simp [Value.oneCell']) (by decide) (by unfold maxLen; omega) (by omega) (HZZ.out _) (wr.heap.size + 1) (by simp) ?_)
              intro gg cap w5 hown hgrow hat hlt5
              have hq := open_stepB (d' := d ++ [(Y, bk, fx)]) (x := (Y, bk, fx)) hown rfl rfl
              have hdl' : (d ++ [(Y, bk, fx)]).length = d.length + 1 := by rw [List.length_append]; rfl
              have HQ := Lib.hid (fix_app (d' := d ++ [(Y, bk, fx)]) Q.out.1 Q.out.2.1 Q.out.2.2.1 Q.out.2.2.2.1 Q.out.2.2.2.2 hgrow hat (by rw [hdl'] at hq ⊢; exact hq))
              have HQ2 := Lib.hid hq
              have HD3 := Lib.hid hdl'
              clear hown hgrow hat hq hdl' x0 x1 x2 xf xlt
              go_wp2_with fail
              go_roundw
              case rel => exact ⟨0 + 1, d ++ [(Y, bk, fx)], by go_num, by omega, by rw [HD3.out]; omega, by have := HQ2.out; rw [HD3.out] at this ⊢; exact this, HQ.out.1, HQ.out.2.1, HQ.out.2.2.1, HQ.out.2.2.2, Lib.hid (by rw [List.append_assoc]; exact HD2.out.symm)⟩
              case measure => simp [intOf]; omega
            · have hiz : ((i : Int) == 0) = false := by simp; omega
              have hin : (i == 0) = false := by simpa using hi0
              rw [hin, Bool.false_and] at HD2
              clear hin
              go_wp2_with (at_builtin; refine wpList_append_lies _ rfl _ _ 51 rfl w.heap.size 59 i0 _ 3 24 Tryd.underlying51 hi iz0 iz1 iz2 rfl (by decide) (.slice a5 d.length c5) d.length _ rfl (Q.out.1.alloc _) ⟨wr.heap.size, 0, none⟩ 1 1 [.string (ba Y), .bool false, .bool fx] rfl rfl (World.news_of_block (cs := #[.string (ba Y), .bool false, .bool fx]) (t := 59) (fr := (0, 0)) (heap_alloc_new wr _)) (by simp [Value.oneCell']) (by decide) (by unfold maxLen; omega) (by omega) (HZZ.out _) (wr.heap.size + 1) (by simp) ?_)
              intro gg cap w5 hown hgrow hat hlt5
              have hq := open_stepB (d' := d ++ [(Y, false, fx)]) (x := (Y, false, fx)) hown rfl rfl
              have hdl' : (d ++ [(Y, false, fx)]).length = d.length + 1 := by rw [List.length_append]; rfl
              have HQ := Lib.hid (fix_app (d' := d ++ [(Y, false, fx)]) Q.out.1 Q.out.2.1 Q.out.2.2.1 Q.out.2.2.2.1 Q.out.2.2.2.2 hgrow hat (by rw [hdl'] at hq ⊢; exact hq))
              have HQ2 := Lib.hid hq
              have HD3 := Lib.hid hdl'
              clear hown hgrow hat hq hdl' x0 x1 x2 xf xlt
              go_wp2_with fail
              go_roundw
              case rel => exact ⟨i + 1, d ++ [(Y, false, fx)], by go_num, by omega, by rw [HD3.out]; omega, by have := HQ2.out; rw [HD3.out] at this ⊢; exact this, HQ.out.1, HQ.out.2.1, HQ.out.2.2.1, HQ.out.2.2.2, Lib.hid (by rw [List.append_assoc]; exact HD2.out.symm)⟩
              case measure => simp [intOf]; omega
          · obtain rfl : i = L.length := by omega
            have hz : ¬ (L.length : Int) < (L.length : Int) := by omega
            have hD2 := HD.out
            rw [newGo_end, List.append_nil] at hD2
            have HD2 := Lib.hid hD2
            have hdt : d.length = TT.opn.length := by rw [hD2]
            clear hD2 HD q8 q3
            have hA := HT.out.below q6
            by_cases hfull : 400 < d.length
            · have hRR := HR.out
              rw [cap_full (by omega)] at hRR
              have HR2 := Lib.hid hRR
              clear hRR hdt HR
              have hfz : (400 : Int) < (d.length : Int) := by omega
              go_wp2_with fail
              go_ret
              rw [HR2.out]
              exact ⟨rfl, hA.weaken (fun k hk => Or.inl hk), Within.of_below q6⟩
            · have hRR := HR.out
              rw [cap_fits (by omega)] at hRR
              have HR2 := Lib.hid hRR
              clear hRR hdt HR
              have hfz : ¬ (400 : Int) < (d.length : Int) := by omega
              have HA := Lib.hid hA
              obtain ⟨vo, vt, h1, h2, h3, h4, h5, h6⟩ := hA
              obtain ⟨at6, ct6, rfl⟩ := own_len h3
              have hct : S.tkn.length ≤ ct6 := own_capR h3
              obtain ⟨c0, c1, c2, c3, c4, c5, hf, hlt⟩ := blk_facts h1
              have H3 := Lib.hid h3
              have HH6 := Lib.hid h6
              have HO := Lib.hid h4
              have Hq1 := Lib.hid q1
              have Hq6 := Lib.hid q6
              have hkk := HKP.out
              have htk := HC.out.2.2.1
              obtain ⟨m, hm⟩ : ∃ m : Nat, m = k - S.count := ⟨_, rfl⟩
              obtain ⟨r, hr⟩ : ∃ r : Nat, r = S.tkn.length - m := ⟨_, rfl⟩
              have hw1 : IntKind.i64.wrap ((k : Int) - (S.count : Int)) = (k : Int) - (S.count : Int) := IntWalk.i64_in _ (by omega)
              have hmx : max ((k : Int) - (S.count : Int)) 0 = (m : Int) := by omega
              have hw2 : IntKind.i64.wrap ((S.tkn.length : Int) - (m : Int)) = (r : Int) := by rw [IntWalk.i64_in _ (by omega)]; omega
              have hrc : r ≤ ct6 := by omega
              have hrN : r ≤ S.tkn.length := by omega
              have hrz : (r : Int) ≤ (ct6 : Int) := by omega
              have HMM : Hid (r = S.tkn.length - (k - S.count)) := Lib.hid (by rw [hr, hm])
              have hf4' := hf 4
              clear h1 h2 h3 h4 h5 h6 q1 q2 q6 hm hr hkk htk c0 c5
              go_wp2_with fail
              refine wp_region_tail 16 (S := (fun w' => w'.cell? ⟨b, 4, none⟩ = some (.slice at6 S.tkn.length ct6) ∧ w'.frozen? ⟨b, 4, none⟩ = false)) (by kernel_rfl) ⟨c4, hf4'⟩ (fun hHeld => ?_)
              simp only [List.size_toArray, List.length_cons, List.length_nil, Nat.zero_add, Nat.reduceAdd]
              refine wpAnyT_take (i := 0) (oi := { dst := some 104, op := Go.Op.move (Go.Operand.tmp 0), type := 48, pos := "respeak.go:133", after := #[], guard := none }) (v := ?_) rfl (by kernel_rfl) (by kernel_rfl) (by kernel_rfl) (by kernel_rfl) (fun _ _ _ h => h) (Or.inl ⟨by rfl, ?_⟩) (by assumption) ?_
              rotate_left
              · intro w hSw
                (try dsimp only at hSw)
                go_simp
                all_goals (with_reducible rfl)
              try simp only [Act.put, List.setIfInBounds_toArray, List.set_cons_zero, List.set_cons_succ]
              refine wpAnyT_take (i := 1) (oi := { dst := some 105, op := Go.Op.move (Go.Operand.tmp 0), type := 48, pos := "respeak.go:133", after := #[], guard := none }) (v := ?_) rfl (by kernel_rfl) (by kernel_rfl) (by kernel_rfl) (by kernel_rfl) (fun _ _ _ h => h) (Or.inl ⟨by rfl, ?_⟩) (by assumption) ?_
              rotate_left
              · intro w hSw
                (try dsimp only at hSw)
                go_simp
                all_goals (with_reducible rfl)
              try simp only [Act.put, List.setIfInBounds_toArray, List.set_cons_zero, List.set_cons_succ]
              refine wpAnyT_take (i := 2) (oi := { dst := some 106, op := Go.Op.nilCheck (Go.Operand.tmp 105), type := 0, pos := "respeak.go:133", after := #[{ on := 1, ground := Go.Ground.data }], guard := none }) (v := ?_) rfl (by kernel_rfl) (by kernel_rfl) (by kernel_rfl) (by kernel_rfl) (fun _ _ _ h => h) (Or.inl ⟨by rfl, ?_⟩) (by assumption) ?_
              rotate_left
              · intro w hSw
                (try dsimp only at hSw)
                go_simp
                all_goals (with_reducible rfl)
              try simp only [Act.put, List.setIfInBounds_toArray, List.set_cons_zero, List.set_cons_succ]
              refine wpAnyT_take (i := 3) (oi := { dst := some 107, op := Go.Op.fieldAddr 88 (Go.Operand.tmp 106) 4, type := 0, pos := "respeak.go:133", after := #[{ on := 2, ground := Go.Ground.data }], guard := none }) (v := ?_) rfl (by kernel_rfl) (by kernel_rfl) (by kernel_rfl) (by kernel_rfl) (fun _ _ _ h => h) (Or.inl ⟨by rfl, ?_⟩) (by assumption) ?_
              rotate_left
              · intro w hSw
                (try dsimp only at hSw)
                go_simp
                all_goals (with_reducible rfl)
              try simp only [Act.put, List.setIfInBounds_toArray, List.set_cons_zero, List.set_cons_succ]
              refine wpAnyT_take (i := 4) (oi := { dst := some 108, op := Go.Op.load 42 (Go.Operand.tmp 107), type := 42, pos := "respeak.go:133", after := #[{ on := 3, ground := Go.Ground.data }], guard := none }) (v := ?_) rfl (by kernel_rfl) (by kernel_rfl) (by kernel_rfl) (by kernel_rfl) (fun _ _ _ h => h) (Or.inl ⟨by rfl, ?_⟩) (by assumption) ?_
              rotate_left
              · intro w hSw
                (try dsimp only at hSw)
                go_simp
                all_goals (with_reducible rfl)
              try simp only [Act.put, List.setIfInBounds_toArray, List.set_cons_zero, List.set_cons_succ]
              refine wpAnyT_take (i := 5) (oi := { dst := some 109, op := Go.Op.move (Go.Operand.tmp 0), type := 48, pos := "respeak.go:133", after := #[], guard := none }) (v := ?_) rfl (by kernel_rfl) (by kernel_rfl) (by kernel_rfl) (by kernel_rfl) (fun _ _ _ h => h) (Or.inl ⟨by rfl, ?_⟩) (by assumption) ?_
              rotate_left
              · intro w hSw
                (try dsimp only at hSw)
                go_simp
                all_goals (with_reducible rfl)
              try simp only [Act.put, List.setIfInBounds_toArray, List.set_cons_zero, List.set_cons_succ]
              refine wpAnyT_take (i := 6) (oi := { dst := some 110, op := Go.Op.nilCheck (Go.Operand.tmp 109), type := 0, pos := "respeak.go:133", after := #[{ on := 5, ground := Go.Ground.data }], guard := none }) (v := ?_) rfl (by kernel_rfl) (by kernel_rfl) (by kernel_rfl) (by kernel_rfl) (fun _ _ _ h => h) (Or.inl ⟨by rfl, ?_⟩) (by assumption) ?_
              rotate_left
              · intro w hSw
                (try dsimp only at hSw)
                go_simp
                all_goals (with_reducible rfl)
              try simp only [Act.put, List.setIfInBounds_toArray, List.set_cons_zero, List.set_cons_succ]
              refine wpAnyT_take (i := 7) (oi := { dst := some 111, op := Go.Op.fieldAddr 88 (Go.Operand.tmp 110) 4, type := 0, pos := "respeak.go:133", after := #[{ on := 6, ground := Go.Ground.data }], guard := none }) (v := ?_) rfl (by kernel_rfl) (by kernel_rfl) (by kernel_rfl) (by kernel_rfl) (fun _ _ _ h => h) (Or.inl ⟨by rfl, ?_⟩) (by assumption) ?_
              rotate_left
              · intro w hSw
                (try dsimp only at hSw)
                go_simp
                all_goals (with_reducible rfl)
              try simp only [Act.put, List.setIfInBounds_toArray, List.set_cons_zero, List.set_cons_succ]
              refine wpAnyT_take (i := 8) (oi := { dst := some 112, op := Go.Op.load 42 (Go.Operand.tmp 111), type := 42, pos := "respeak.go:133", after := #[{ on := 7, ground := Go.Ground.data }], guard := none }) (v := ?_) rfl (by kernel_rfl) (by kernel_rfl) (by kernel_rfl) (by kernel_rfl) (fun _ _ _ h => h) (Or.inl ⟨by rfl, ?_⟩) (by assumption) ?_
              rotate_left
              · intro w hSw
                (try dsimp only at hSw)
                go_simp
                all_goals (with_reducible rfl)
              try simp only [Act.put, List.setIfInBounds_toArray, List.set_cons_zero, List.set_cons_succ]
              refine wpAnyT_take (i := 9) (oi := { dst := some 113, op := Go.Op.call { callee := Go.Callee.builtin Go.Builtin.len, args := #[Go.Operand.tmp 112], argTypes := #[42] }, type := 3, pos := "respeak.go:133", after := #[{ on := 8, ground := Go.Ground.data }], guard := none }) (v := ?_) rfl (by kernel_rfl) (by kernel_rfl) (by kernel_rfl) (by kernel_rfl) (fun _ _ _ h => h) (Or.inl ⟨by rfl, ?_⟩) (by assumption) ?_
              rotate_left
              · intro w hSw
                (try dsimp only at hSw)
                go_simp
                all_goals (with_reducible rfl)
              try simp only [Act.put, List.setIfInBounds_toArray, List.set_cons_zero, List.set_cons_succ]
              refine wpAnyT_take (i := 10) (oi := { dst := some 114, op := Go.Op.move (Go.Operand.tmp 1), type := 3, pos := "respeak.go:133", after := #[], guard := none }) (v := ?_) rfl (by kernel_rfl) (by kernel_rfl) (by kernel_rfl) (by kernel_rfl) (fun _ _ _ h => h) (Or.inl ⟨by rfl, ?_⟩) (by assumption) ?_
              rotate_left
              · intro w hSw
                (try dsimp only at hSw)
                go_simp
                all_goals (with_reducible rfl)
              try simp only [Act.put, List.setIfInBounds_toArray, List.set_cons_zero, List.set_cons_succ]
              refine wpAnyT_take (i := 11) (oi := { dst := some 115, op := Go.Op.move (Go.Operand.tmp 9), type := 3, pos := "respeak.go:133", after := #[], guard := none }) (v := ?_) rfl (by kernel_rfl) (by kernel_rfl) (by kernel_rfl) (by kernel_rfl) (fun _ _ _ h => h) (Or.inl ⟨by rfl, ?_⟩) (by assumption) ?_
              rotate_left
              · intro w hSw
                (try dsimp only at hSw)
                go_simp
                all_goals (with_reducible rfl)
              try simp only [Act.put, List.setIfInBounds_toArray, List.set_cons_zero, List.set_cons_succ]
              refine wpAnyT_take (i := 12) (oi := { dst := some 116, op := Go.Op.binOp Go.BinOp.sub 3 (Go.Operand.tmp 114) (Go.Operand.tmp 115) 3, type := 3, pos := "respeak.go:133", after := #[{ on := 10, ground := Go.Ground.data }, { on := 11, ground := Go.Ground.data }], guard := none }) (v := ?_) rfl (by kernel_rfl) (by kernel_rfl) (by kernel_rfl) (by kernel_rfl) (fun _ _ _ h => h) (Or.inl ⟨by rfl, ?_⟩) (by assumption) ?_
              rotate_left
              · intro w hSw
                (try dsimp only at hSw)
                go_simp
                all_goals (with_reducible rfl)
              try simp only [Act.put, List.setIfInBounds_toArray, List.set_cons_zero, List.set_cons_succ]
              refine wpAnyT_take (i := 13) (oi := { dst := some 117, op := Go.Op.call { callee := Go.Callee.builtin Go.Builtin.max, args := #[Go.Operand.tmp 116, Go.Operand.const (Go.Value.int Go.IntKind.i64 0)], argTypes := #[3, 3] }, type := 3, pos := "respeak.go:133", after := #[{ on := 12, ground := Go.Ground.data }], guard := none }) (v := ?_) rfl (by kernel_rfl) (by kernel_rfl) (by kernel_rfl) (by kernel_rfl) (fun _ _ _ h => h) (Or.inl ⟨by rfl, ?_⟩) (by assumption) ?_
              rotate_left
              · intro w hSw
                (try dsimp only at hSw)
                go_simp
                all_goals (with_reducible rfl)
              try simp only [Act.put, List.setIfInBounds_toArray, List.set_cons_zero, List.set_cons_succ]
              refine wpAnyT_take (i := 14) (oi := { dst := some 118, op := Go.Op.binOp Go.BinOp.sub 3 (Go.Operand.tmp 113) (Go.Operand.tmp 117) 3, type := 3, pos := "respeak.go:133", after := #[{ on := 9, ground := Go.Ground.data }, { on := 13, ground := Go.Ground.data }], guard := none }) (v := ?_) rfl (by kernel_rfl) (by kernel_rfl) (by kernel_rfl) (by kernel_rfl) (fun _ _ _ h => h) (Or.inl ⟨by rfl, ?_⟩) (by assumption) ?_
              rotate_left
              · intro w hSw
                (try dsimp only at hSw)
                go_simp
                all_goals (with_reducible rfl)
              try simp only [Act.put, List.setIfInBounds_toArray, List.set_cons_zero, List.set_cons_succ]
              refine wpAnyT_take (i := 15) (oi := { dst := some 119, op := Go.Op.slice 42 (Go.Operand.tmp 108) none (some (Go.Operand.tmp 118)) none, type := 42, pos := "respeak.go:133", after := #[{ on := 4, ground := Go.Ground.data }, { on := 14, ground := Go.Ground.data }], guard := none }) (v := ?_) rfl (by kernel_rfl) (by kernel_rfl) (by kernel_rfl) (by kernel_rfl) (fun _ _ _ h => h) (Or.inl ⟨by rfl, ?_⟩) (by assumption) ?_
              rotate_left
              · intro w hSw
                (try dsimp only at hSw)
                go_simp
                all_goals (with_reducible rfl)
              try simp only [Act.put, List.setIfInBounds_toArray, List.set_cons_zero, List.set_cons_succ]
              refine wpAnyT_last (i := 16) (o := { dst := some 120, op := Go.Op.nilCheck (Go.Operand.tmp 104), type := 0, pos := "respeak.go:133", after := #[{ on := 0, ground := Go.Ground.data }, { on := 0, ground := Go.Ground.phase }, { on := 1, ground := Go.Ground.phase }, { on := 2, ground := Go.Ground.phase }, { on := 3, ground := Go.Ground.phase }, { on := 4, ground := Go.Ground.phase }, { on := 5, ground := Go.Ground.phase }, { on := 6, ground := Go.Ground.phase }, { on := 7, ground := Go.Ground.phase }, { on := 8, ground := Go.Ground.phase }, { on := 9, ground := Go.Ground.phase }, { on := 10, ground := Go.Ground.phase }, { on := 11, ground := Go.Ground.phase }, { on := 12, ground := Go.Ground.phase }, { on := 13, ground := Go.Ground.phase }, { on := 14, ground := Go.Ground.phase }, { on := 15, ground := Go.Ground.phase }], guard := none }) (by kernel_rfl) rfl (by decide) (fun K hK => ?_)
              go_simp
              refine hK.out _ _ ?_
              clear hK K
              try simp only [Act.put, List.setIfInBounds_toArray, List.set_cons_zero, List.set_cons_succ]
              refine wpAnyT_last (i := 17) (o := { dst := some 121, op := Go.Op.fieldAddr 88 (Go.Operand.tmp 120) 4, type := 0, pos := "respeak.go:133", after := #[{ on := 16, ground := Go.Ground.data }, { on := 0, ground := Go.Ground.phase }, { on := 1, ground := Go.Ground.phase }, { on := 2, ground := Go.Ground.phase }, { on := 3, ground := Go.Ground.phase }, { on := 4, ground := Go.Ground.phase }, { on := 5, ground := Go.Ground.phase }, { on := 6, ground := Go.Ground.phase }, { on := 7, ground := Go.Ground.phase }, { on := 8, ground := Go.Ground.phase }, { on := 9, ground := Go.Ground.phase }, { on := 10, ground := Go.Ground.phase }, { on := 11, ground := Go.Ground.phase }, { on := 12, ground := Go.Ground.phase }, { on := 13, ground := Go.Ground.phase }, { on := 14, ground := Go.Ground.phase }, { on := 15, ground := Go.Ground.phase }], guard := none }) (by kernel_rfl) rfl (by decide) (fun K hK => ?_)
              go_simp
              refine hK.out _ _ ?_
              clear hK K
              try simp only [Act.put, List.setIfInBounds_toArray, List.set_cons_zero, List.set_cons_succ]
              refine wpAnyT_last (i := 18) (o := { dst := none, op := Go.Op.store 42 (Go.Operand.tmp 121) (Go.Operand.tmp 119), type := 0, pos := "respeak.go:133", after := #[{ on := 17, ground := Go.Ground.data }, { on := 15, ground := Go.Ground.data }, { on := 0, ground := Go.Ground.phase }, { on := 1, ground := Go.Ground.phase }, { on := 2, ground := Go.Ground.phase }, { on := 3, ground := Go.Ground.phase }, { on := 4, ground := Go.Ground.phase }, { on := 5, ground := Go.Ground.phase }, { on := 6, ground := Go.Ground.phase }, { on := 7, ground := Go.Ground.phase }, { on := 8, ground := Go.Ground.phase }, { on := 9, ground := Go.Ground.phase }, { on := 10, ground := Go.Ground.phase }, { on := 11, ground := Go.Ground.phase }, { on := 12, ground := Go.Ground.phase }, { on := 13, ground := Go.Ground.phase }, { on := 14, ground := Go.Ground.phase }, { on := 15, ground := Go.Ground.phase }], guard := none }) (by kernel_rfl) rfl (by decide) (fun K hK => ?_)
              go_simp
              refine hK.out _ _ ?_
              clear hK K
              try simp only [Act.put, List.setIfInBounds_toArray, List.set_cons_zero, List.set_cons_succ]
              refine wpAnyT_done (by kernel_rfl) ?_ _
              have HMF : Hid (min (S.free : Int) (kp : Int) = ((min S.free kp : Nat) : Int)) := Lib.hid (by omega)
              go_wp2_with fail
              go_ret
              rw [HR2.out, HMF.out]
              refine ⟨rfl, ?_, (((((Within.of_below Hq6.out).set HO.out).set HO.out).set HO.out).set HO.out).drew⟩
              obtain ⟨e1, e2, e3, e4⟩ := Htr.out
              have e5 : TT = ⟨S.hold, d, TT.mark, min S.free kp, S.tkn.take r, S.brk⟩ := by
                rw [HMM.out, hkp'.out, ← e4, ← e3, ← e1, ← e2, HD2.out]
              have q := ((((HA.out.weaken (O' := grow O w wr) (fun k hk => Or.inl hk)).setTkn (v := .slice at6 r ct6) (l := S.tkn.take r) (by rw [List.length_take, Nat.min_eq_left hrN]; exact own_take1 H3.out hrN) (fun k hk => Or.inl (HH6.out k (by cases at6 <;> exact hk)))).setOpn (l := d) (own_base (own_far Hq1.out (fun e => by have := own_from Hq1.out e; have := HT.out.lt; omega))) (fun k hk => Or.inr ⟨own_from Hq1.out hk, RowR.own_lt Hq1.out hk⟩)).setMark (m := TT.mark)).setFree (f := min S.free kp)
              rw [e5]
              refine SpAt.weaken (O := grow O w wr) q (fun k hk => ?_)
              rcases hk with hk | hk
              · exact Or.inl hk
              · exact Or.inr ⟨hk.1, by simpa using hk.2⟩
  · have HR := Lib.hid (Hbad.out hE0)
    have hEz : (E == 0) = false := by simpa using hE0
    clear Hbad Hnone Hto
    go_wp2_with fail
    go_ret
    rw [HR.out]
    exact ⟨rfl, (HT.out.below hb).weaken (fun k hk => Or.inl hk), Within.of_below hb⟩
end Go.Proofs.YtheemefggkcfbaaDoor
