import Derived.Test.YtheemefggkcfbaaDoorT10
import Derived.Deep.RegionWith
namespace Go.Proofs.YtheemefggkcfbaaDoor
open Go Go.Lib Go.RowKit Go.Shelf
/-- n tokens that nothing is known of yet. -/
def zeros (n : Nat) : Array Value := madeCells #[.string ⟨#[]⟩, .int .i64 0] (n * 2)
theorem zeros_size (n : Nat) : (zeros n).size = n * 2 := size_madeCells _ _
theorem make_tokens (n : Nat) (h : n ≤ 65536) (w : World) : (Instr.makeSlice 24 (.int .i64 (n : Int)) (.int .i64 (n : Int))).run Tryd.prog w = .ok (.slice (some ⟨w.heap.size, 0, none⟩) n n) (w.alloc (.cells (zeros n) 30)) := by
  obtain ⟨i0, hi, iz0, iz1, iz2⟩ := info_parts info30
  have hr := run_make (P := Tryd.prog) w 24 30 i0 _ Tryd.underlying24 hi iz0 .i64 .i64 n n (by omega) (Int.le_refl _) (by rw [iz2]; omega) (by omega)
  rw [iz1] at hr
  simp only [Int.toNat_natCast] at hr
  exact hr
/-- The first k places are these tokens. -/
def Front (w : World) (B g n k : Nat) (d : List (List UInt8 × Int)) : Prop :=
  ∃ xs, w.ownsRow B 30 2 (.slice (some ⟨g, 0, none⟩) n n) n xs ∧ xs.take (k * 2) = tcells d
theorem Front.own {w : World} {B g n : Nat} {d : List (List UInt8 × Int)} (h : Front w B g n n d) : w.ownsRow B 30 2 (.slice (some ⟨g, 0, none⟩) n n) n (tcells d) := by
  obtain ⟨xs, ho, ht⟩ := h
  have hl := ho.1
  rw [List.take_of_length_le (by omega)] at ht
  rw [← ht]; exact ho
theorem set_front (xs cs : List Value) (k n : Nat) (a b : Value) (hx : xs.length = n * 2) (hk : k < n) (h : xs.take (k * 2) = cs) : ((xs.set (k * 2) a).set (k * 2 + 1) b).take ((k + 1) * 2) = cs ++ [a, b] := by
  subst h
  apply List.ext_getElem?
  intro j
  rw [List.getElem?_take, List.getElem?_append, List.length_take]
  rw [show min (k * 2) xs.length = k * 2 by omega]
  by_cases h1 : j < k * 2
  · rw [if_pos (by omega), if_pos h1, List.getElem?_set_ne (by omega), List.getElem?_set_ne (by omega), List.getElem?_take, if_pos h1]
  · rw [if_neg h1]
    by_cases h2 : j = k * 2
    · subst h2
      rw [if_pos (by omega), List.getElem?_set_ne (by omega), List.getElem?_set_self (by omega)]; simp
    · by_cases h3 : j = k * 2 + 1
      · subst h3
        rw [if_pos (by omega), List.getElem?_set_self (by simp; omega)]
        rw [show k * 2 + 1 - k * 2 = 1 by omega]; rfl
      · rw [if_neg (by omega), List.getElem?_eq_none (by simp; omega)]
theorem Front.put {w : World} {B g n k : Nat} {d d' : List (List UInt8 × Int)} {x : List UInt8} {m : Int} (h : Front w B g n k d) (hk : k < n) (he : d' = d ++ [(x, m)]) :
    Front ((w.setCell ⟨g, k * 2, none⟩ (strV x)).setCell ⟨g, k * 2 + 1, none⟩ (.int .i64 m)) B g n (k + 1) d' := by
  obtain ⟨xs, ho, ht⟩ := h
  have o1 := (ho.stored (k * 2) (strV x)).1
  have o2 := (o1.stored (k * 2 + 1) (.int .i64 m)).1
  refine ⟨_, o2, ?_⟩
  rw [he, tcells_app, set_front xs _ k n _ _ ho.1 hk ht]; rfl
theorem Front.again {w : World} {B g n k : Nat} {d d' : List (List UInt8 × Int)} {x : List UInt8} {m m' : Int} (h : Front w B g n (k + 1) (d ++ [(x, m)])) (hd : d.length = k) (he : d' = d ++ [(x, m')]) :
    Front (w.setCell ⟨g, k * 2 + 1, none⟩ (.int .i64 m')) B g n (k + 1) d' := by
  obtain ⟨xs, ho, ht⟩ := h
  refine ⟨_, (ho.stored (k * 2 + 1) (.int .i64 m')).1, ?_⟩
  have hl := ho.1
  rw [List.take_set, ht, he, tcells_app, tcells_app, List.set_append_right _ _ (by rw [tcells_len, hd]; omega), tcells_len, hd, show k * 2 + 1 - k * 2 = 1 by omega]
  rfl
theorem Front.stays {w w' : World} {B g n k : Nat} {d : List (List UInt8 × Int)} (h : Front w B g n k d) (hb : Below w.heap.size w w') : Front w' B g n k d := by
  obtain ⟨xs, ho, ht⟩ := h
  exact ⟨xs, own_stays ho hb, ht⟩
theorem Front.base {w : World} {B g n k : Nat} {d : List (List UInt8 × Int)} (h : Front w B g n k d) : B ≤ g ∧ g < w.heap.size := by
  obtain ⟨xs, ho, ht⟩ := h
  exact ho.lt g rfl
theorem Front.warm {w : World} {B g n k : Nat} {d : List (List UInt8 × Int)} (h : Front w B g n k d) (j : Nat) : w.frozen? ⟨g, j, none⟩ = false := by
  obtain ⟨xs, ho, ht⟩ := h
  exact ho.frozenAt j
theorem Front.cell {w : World} {B g n k : Nat} {d : List (List UInt8 × Int)} (h : Front w B g n k d) (j : Nat) (hj : j < n * 2) : ∃ u, w.cell? ⟨g, j, none⟩ = some u := by
  obtain ⟨xs, ho, ht⟩ := h
  have hl := ho.1
  exact ⟨xs[j]'(by omega), by rw [ho.cellAt j hj, List.getElem?_eq_getElem]⟩
theorem Front.keep {w : World} {B B' g : Nat} {a : Option Addr} {n m cp k : Nat} {d : List (List UInt8 × Int)} {ys : List Value} (h : Front w B g n k d) (ho : w.ownsRow B' 9 1 (.slice a m cp) m ys) (j : Nat) (u : Value) : (w.setCell ⟨g, j, none⟩ u).ownsRow B' 9 1 (.slice a m cp) m ys := by
  obtain ⟨xs, h1, ht⟩ := h
  exact ho.kept (h1.stored j u).2 (rows_apart (by decide) h1 ho)
theorem Front.keep2 {w : World} {B B' g : Nat} {a : Option Addr} {n m cp k : Nat} {d : List (List UInt8 × Int)} {ys : List Value} (h : Front w B g n k d) (ho : w.ownsRow B' 9 1 (.slice a m cp) m ys) (j j' : Nat) (u u' : Value) : ((w.setCell ⟨g, j, none⟩ u).setCell ⟨g, j', none⟩ u').ownsRow B' 9 1 (.slice a m cp) m ys := by
  obtain ⟨xs, h1, ht⟩ := h
  have o1 := h1.stored j u
  have k1 := ho.kept o1.2 (rows_apart (by decide) h1 ho)
  exact k1.kept (o1.1.stored j' u').2 (rows_apart (by decide) o1.1 k1)
set_option maxHeartbeats 4000000 in
set_option maxRecDepth 100000 in
theorem split_any' (s : ByteArray) (w : World) (hs : s.size ≤ 65536) (hE : Env w) :
    Calls Tryd.prog 18 #[.string s] w (MadeT w.heap.size (splitL s.data.toList) (splitE s.data.toList) w) := by
  have c := fields_any s w (by omega)
  have hLl := words_len s
  have hwl : ∀ i, ((words s.data.toList).getD i []).length ≤ s.size := by
    intro i
    have h := words_getD_len s.data.toList i
    rw [← size_eq] at h; exact h
  have Hbad := Lib.hid (@split_bad s.data.toList)
  have Hlong := Lib.hid (@split_long s.data.toList)
  have Hgood := Lib.hid (@split_good s.data.toList)
  generalize splitL s.data.toList = TS at *
  generalize splitE s.data.toList = ER at *
  generalize words s.data.toList = L at *
  go_enter Tryd.func18, Tryd.ntmps18
  go_wp2_with (go_at_call 56; refine c.mono ?_; rintro e w1 ⟨v, rfl, ho, hb⟩; obtain ⟨a, cp, rfl⟩ := own_len ho)
  clear c
  go_loopw [14] (fun v wx => ∃ i : Nat, v = .int .i64 i ∧ i ≤ L.length ∧ Below w.heap.size w wx ∧ wx.ownsRow w.heap.size 9 1 (.slice a L.length cp) L.length (wcells L) ∧ Hid ((L.drop i).all validC = L.all validC)) (fun v _ => L.length - (intOf v).toNat)
  case atStart => exact ⟨0, rfl, Nat.zero_le _, hb, ho, Lib.hid (by rw [List.drop_zero])⟩
  case round =>
    clear ho hb
    obtain ⟨i, rfl, hil, hb, ho, HV⟩ := hrel
    have hsz := hb.size
    by_cases hlt : i < L.length
    · have hz : (i : Int) < (L.length : Int) := by omega
      have hq := own_at ho i hlt
      obtain ⟨g, rfl, hg, hc⟩ := hq
      have hwi := hwl i
      have cV := fun w hE => valid_any (ba (L.getD i [])) w (by rw [ba_size]; omega) hE
      rw [strV_ba] at hc
      change ∀ w, Env w → Calls Tryd.prog 58 #[.string (ba (L.getD i []))] w fun e w' => e = .returned (.bool (validC (L.getD i []))) ∧ Below w.heap.size w w' at cV
      have hst := all_step L i hlt
      cases hvc : validC (L.getD i [])
      · rw [hvc] at cV hst
        rw [Bool.false_and] at hst
        have HB := Lib.hid (Hbad.out (HV.out.symm.trans hst))
        clear hst hvc HV hwi
        generalize ba (L.getD i []) = Y at *
        go_wp2_with (go_at_call 58; refine (cV _ (hE.below hb)).mono ?_; rintro e w2 ⟨rfl, hb2⟩)
        go_ret2
        exact made_nil (below_grow hb hsz hb2) HB.out.2 HB.out.1.symm
      · rw [hvc] at cV hst
        rw [Bool.true_and] at hst
        have HB := Lib.hid (hst.symm.trans HV.out)
        clear hst hvc HV hwi
        generalize ba (L.getD i []) = Y at *
        go_wp2_with (go_at_call 58; refine (cV _ (hE.below hb)).mono ?_; rintro e w2 ⟨rfl, hb2⟩)
        go_roundw
        case rel => exact ⟨i + 1, by go_num, by omega, below_grow hb hsz hb2, own_stays ho hb2, HB⟩
        case measure => simp [intOf]; omega
    · obtain rfl : i = L.length := by omega
      have HA : Hid (L.all validC = true) := by
        have h := HV.out
        rw [List.drop_length] at h
        exact Lib.hid h.symm
      clear HV Hbad
      have hz : ¬ (L.length : Int) < (L.length : Int) := by omega
      by_cases h200 : 200 < L.length
      · have HL := Lib.hid (Hlong.out HA.out h200)
        have h2z : (200 : Int) < (L.length : Int) := by omega
        clear h200
        go_wp2_with fail
        go_ret2
        exact made_nil hb HL.out.2 HL.out.1.symm
      · have HL := Lib.hid (Hgood.out HA.out h200)
        have h2z : ¬ (200 : Int) < (L.length : Int) := by omega
        clear Hlong Hgood HA
        have hmk := make_tokens L.length (by omega)
        have hs0 : Front (wr.alloc (.cells (zeros L.length) 30)) w.heap.size wr.heap.size L.length 0 [] :=
          ⟨_, World.ownsRow_lit (base := w.heap.size) (e := 30) (size := 2) wr (zeros L.length) L.length hsz (by unfold maxLen; omega) (zeros_size _), rfl⟩
        have ho0 := ho.alloc (.cells (zeros L.length) 30)
        have hb0 := hb.alloc hsz (.cells (zeros L.length) 30)
        have hgs := hsz
        go_wp2_with fail
        generalize wr.heap.size = G at *
        go_loopw [30] (fun j wx => ∃ k : Nat, j = .int .i64 k ∧ k ≤ L.length ∧ Front wx w.heap.size G L.length k (tokK L k) ∧ wx.ownsRow w.heap.size 9 1 (.slice a L.length cp) L.length (wcells L) ∧ Below w.heap.size w wx) (fun j _ => L.length - (intOf j).toNat)
        case atStart => exact ⟨0, rfl, by omega, hs0, ho0, hb0⟩
        case round =>
          clear hs0 ho0 hb0 ho hb hsz
          obtain ⟨k, rfl, hkl, hfr, ho, hb⟩ := hrel
          have hsz := hb.size
          by_cases hlt : k < L.length
          · have hz : (k : Int) < (L.length : Int) := by omega
            obtain ⟨g, rfl, hg, hc⟩ := own_at ho k hlt
            rw [strV_ba] at hc
            have HT := Lib.hid (tokK_succ L k)
            obtain ⟨u0, hu0⟩ := hfr.cell (k * 2) (by omega)
            obtain ⟨u1, hu1⟩ := hfr.cell (k * 2 + 1) (by omega)
            have hf0 := hfr.warm (k * 2)
            have hf1 := hfr.warm (k * 2 + 1)
            by_cases hnx : k + 1 < L.length
            · have hz2 : (k : Int) + 1 < (L.length : Int) := by omega
              obtain ⟨Y, hY⟩ : ∃ Y, L.getD k [] = Y := ⟨_, rfl⟩
              have R1 := hfr.put (x := Y) (m := 5) hlt rfl
              have R2 := hfr.keep2 ho (k * 2) (k * 2 + 1) (strV Y) (.int .i64 5)
              have R3 := (hb.setCell (p := ⟨G, k * 2, none⟩) hgs (strV Y)).setCell (p := ⟨G, k * 2 + 1, none⟩) hgs (.int .i64 5)
              rw [strV_ba] at R1 R2 R3
              obtain ⟨g2, eg, _, hc2⟩ := own_at R2 (k + 1) hnx
              obtain rfl : g = g2 := by cases eg; rfl
              clear eg
              rw [strV_ba] at hc2
              have hs1 := hwl k
              have hs2 := hwl (k + 1)
              have cS := fun w hE => strength_any (ba (L.getD k [])) (ba (L.getD (k + 1) [])) w (by rw [ba_size]; omega) (by rw [ba_size]; omega) hE
              have e : strW (ba (L.getD k [])).data.toList (ba (L.getD (k + 1) [])).data.toList = strAt L k := by unfold strAt; rw [if_pos hnx]; rfl
              rw [e] at cS
              clear e
              rw [hY] at hc cS HT
              generalize strAt L k = N at *
              generalize ba (L.getD (k + 1) []) = Y2 at *
              clear hY hs1 hs2 hfr ho hb
              go_upto_region 15 with fail
              clear hc hu0 hu1 hf0 hf1
              generalize (wr.setCell ⟨G, k * 2, none⟩ (.string (ba Y))).setCell ⟨G, k * 2 + 1, none⟩ (.int .i64 5) = W1 at *
              have hszW := R3.size
              have cS1 := cS W1 (hE.below R3)
              go_upto_region 16 with fail
              go_wp2_with fail
              refine cS1.mono ?_
              rintro e w2 ⟨rfl, hbc⟩
              have F1 := R1.stays hbc
              have O1 := own_stays R2 hbc
              have hb1 := below_grow R3 hszW hbc
              obtain ⟨u2, hu2⟩ := F1.cell (k * 2 + 1) (by omega)
              have hf2 := F1.warm (k * 2 + 1)
              have R4 := F1.again (m' := N) (tokK_len L k) HT.out
              have R5 := F1.keep O1 (k * 2 + 1) (.int .i64 N)
              have R6 := hb1.setCell (p := ⟨G, k * 2 + 1, none⟩) hgs (.int .i64 N)
              clear R1 R2 R3 hszW hbc F1 O1 hb1 cS1 hc2 cS
              go_wp2_with fail
              go_roundw
              case rel => exact ⟨k + 1, by go_num, by omega, R4, R5, R6⟩
              case measure => simp [intOf]; omega
            · have hz2 : ¬ (k : Int) + 1 < (L.length : Int) := by omega
              have e : strAt L k = 5 := by unfold strAt; rw [if_neg hnx]
              rw [e] at HT
              clear e
              obtain ⟨Y, hY⟩ : ∃ Y, L.getD k [] = Y := ⟨_, rfl⟩
              rw [hY] at hc HT
              clear hY
              have R1 := hfr.put (x := Y) (m := 5) hlt HT.out
              have R2 := hfr.keep2 ho (k * 2) (k * 2 + 1) (strV Y) (.int .i64 5)
              have R3 := (hb.setCell (p := ⟨G, k * 2, none⟩) hgs (strV Y)).setCell (p := ⟨G, k * 2 + 1, none⟩) hgs (.int .i64 5)
              clear hfr ho hb
              go_wp2_with fail
              go_roundw
              case rel => exact ⟨k + 1, by go_num, by omega, R1, R2, R3⟩
              case measure => simp [intOf]; omega
          · obtain rfl : k = L.length := by omega
            have hz : ¬ (L.length : Int) < (L.length : Int) := by omega
            have HL2 : Hid (TS = tokK L L.length) := Lib.hid HL.out.2
            go_wp2_with fail
            go_ret2
            exact made_row hb HL2.out HL.out.1.symm (by rw [tokK_len]; exact hfr.own)
end Go.Proofs.YtheemefggkcfbaaDoor
