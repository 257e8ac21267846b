import Derived.Test.YtheemefggkcfbaaDoorP2
namespace Go.Proofs.YtheemefggkcfbaaDoor
open Go Go.Lib Go.RowKit Go.Shelf
theorem info30 : (Tryd.prog.info? 30).map (fun i => (i.zero, i.size, i.bytes)) = some (some (.agg #[.string ⟨#[]⟩, .int .i64 0]), 2, 24) := by kernel_rfl
theorem split_bad {l : List UInt8} (h : (words l).all validC = false) : splitE l = 10 ∧ splitL l = [] := by
  have e : splitE l = 10 := by unfold splitE; rw [h]; rfl
  exact ⟨e, by unfold splitL; rw [e]; rfl⟩
theorem split_long {l : List UInt8} (h : (words l).all validC = true) (h2 : 200 < (words l).length) : splitE l = 9 ∧ splitL l = [] := by
  have e : splitE l = 9 := by unfold splitE; rw [h, if_pos rfl, if_pos h2]
  exact ⟨e, by unfold splitL; rw [e]; rfl⟩
theorem split_good {l : List UInt8} (h : (words l).all validC = true) (h2 : ¬ 200 < (words l).length) : splitE l = 0 ∧ splitL l = tokL (words l) := by
  have e : splitE l = 0 := by unfold splitE; rw [h, if_pos rfl, if_neg h2]
  exact ⟨e, by unfold splitL; rw [e]; rfl⟩
theorem made_nil {B : Nat} {w w' : World} {ts : List (List UInt8 × Int)} {err er : Int} (h : Below B w w') (ht : ts = []) (he : er = err) : MadeT B ts err w (.returned (.tuple #[.slice none 0 0, .int .i64 er])) w' := by
  subst ht he
  exact ⟨_, rfl, World.ownsRow_nil _ _ _ _, h⟩
theorem made_row {B : Nat} {w w' : World} {v : Value} {ts us : List (List UInt8 × Int)} {err er : Int} (h : Below B w w') (ht : ts = us) (he : er = err) (ho : w'.ownsRow B 30 2 v us.length (tcells us)) : MadeT B ts err w (.returned (.tuple #[v, .int .i64 er])) w' := by
  subst ht he
  exact ⟨_, rfl, ho, h⟩
theorem tok_step {B n : Nat} {v' : Value} {w W1 w' : World} {d d' : List (List UInt8 × Int)} {x : List UInt8 × Int} {v : Value} (hown : W1.ownsRow B 30 2 v n (tcells d)) (he : d' = d ++ [x]) (hB : Below B w W1) (hz : B ≤ W1.heap.size)
    (h1 : w'.ownsRow B 30 2 v' (n + 1) (tcells d ++ tcell x)) (hg : W1.grownBy w' v.ownBlock) : w'.ownsRow B 30 2 v' (n + 1) (tcells d') ∧ Below B w w' := by
  have e : tcells d' = tcells d ++ tcell x := by rw [he, tcells_app]; simp [tcells]
  rw [e]; exact ⟨h1, app_step hown hB hz hg⟩

set_option maxHeartbeats 4000000 in
set_option maxRecDepth 100000 in
theorem rsplit_any (s : ByteArray) (w : World) (hs : s.size ≤ 65536) :
    Calls Tryd.prog 19 #[.string s] w (MadeT w.heap.size (splitL s.data.toList) (splitE s.data.toList) w) := by
  obtain ⟨i0, hi, iz0, iz1, iz2⟩ := info_parts info30
  have c := rwords_any s w (by omega)
  have hLl := words_len s
  have hwl : ∀ i, ((words s.data.toList).getD i []).length ≤ s.size := by
    intro i
    have h := words_getD_len s.data.toList i
    rw [← size_eq] at h; exact h
  have Hbad := Lib.hid (@split_bad s.data.toList)
  have Hlong := Lib.hid (@split_long s.data.toList)
  have Hgood := Lib.hid (@split_good s.data.toList)
  generalize splitL s.data.toList = TS at *
  generalize splitE s.data.toList = ER at *
  generalize words s.data.toList = L at *
  go_enter Tryd.func19, Tryd.ntmps19
  go_wp2_with (refine c.mono ?_; rintro e w1 ⟨v, rfl, ho, hb⟩; obtain ⟨a, cp, rfl⟩ := own_len ho)
  clear c
  go_loopw [15] (fun v wx => ∃ i : Nat, v = .int .i64 i ∧ i ≤ L.length ∧ Below w.heap.size w wx ∧ wx.ownsRow w.heap.size 9 1 (.slice a L.length cp) L.length (wcells L) ∧ Hid ((L.drop i).all validC = L.all validC)) (fun v _ => L.length - (intOf v).toNat)
  case atStart => exact ⟨0, rfl, Nat.zero_le _, hb, ho, Lib.hid (by rw [List.drop_zero])⟩
  case round =>
    clear ho hb
    obtain ⟨i, rfl, hil, hb, ho, HV⟩ := hrel
    have hsz := hb.size
    by_cases hlt : i < L.length
    · have hz : (i : Int) < (L.length : Int) := by omega
      have hq := own_at ho i hlt
      obtain ⟨g, rfl, hg, hc⟩ := hq
      have cV := fun w => rvalid_any (ba (L.getD i [])) w
      rw [strV_ba] at hc
      change ∀ w, Calls Tryd.prog 60 #[.string (ba (L.getD i []))] w fun e w' => e = .returned (.bool (validC (L.getD i []))) ∧ Below w.heap.size w w' at cV
      have hst := all_step L i hlt
      cases hvc : validC (L.getD i [])
      · rw [hvc] at cV hst
        rw [Bool.false_and] at hst
        have HB := Lib.hid (Hbad.out (HV.out.symm.trans hst))
        clear hst hvc HV
        generalize ba (L.getD i []) = Y at *
        go_wp2_with (refine (cV _).mono ?_; rintro e w2 ⟨rfl, hb2⟩)
        go_ret2
        exact made_nil (below_grow hb hsz hb2) HB.out.2 HB.out.1.symm
      · rw [hvc] at cV hst
        rw [Bool.true_and] at hst
        have HB := Lib.hid (hst.symm.trans HV.out)
        clear hst hvc HV
        generalize ba (L.getD i []) = Y at *
        go_wp2_with (refine (cV _).mono ?_; rintro e w2 ⟨rfl, hb2⟩)
        go_roundw
        case rel => exact ⟨i + 1, by go_num, by omega, below_grow hb hsz hb2, own_stays ho hb2, HB⟩
        case measure => simp [intOf]; omega
    · obtain rfl : i = L.length := by omega
      have HA : Hid (L.all validC = true) := by
        have h := HV.out
        rw [List.drop_length] at h
        exact Lib.hid h.symm
      clear HV Hbad
      have hz : ¬ (L.length : Int) < (L.length : Int) := by omega
      by_cases h200 : 200 < L.length
      · have HL := Lib.hid (Hlong.out HA.out h200)
        have h2z : (200 : Int) < (L.length : Int) := by omega
        clear h200
        go_wp2_with fail
        go_ret2
        exact made_nil hb HL.out.2 HL.out.1.symm
      · have HL := Lib.hid (Hgood.out HA.out h200)
        have h2z : ¬ (200 : Int) < (L.length : Int) := by omega
        clear Hlong Hgood HA
        have hs0 := World.ownsRow_lit (base := w.heap.size) (e := 30) (size := 2) wr #[] 0 hsz (by unfold maxLen; omega) rfl
        have ho0 := ho.alloc (.cells #[] 30)
        have hb0 := hb.alloc hsz (.cells #[] 30)
        go_wp2_with fail
        go_loopw [7, 29] (fun v j wx => ∃ k : Nat, j = .int .i64 k ∧ k ≤ L.length ∧ wx.ownsRow w.heap.size 30 2 v k (tcells (tokK L k)) ∧ wx.ownsRow w.heap.size 9 1 (.slice a L.length cp) L.length (wcells L) ∧ Below w.heap.size w wx) (fun _ j _ => L.length - (intOf j).toNat)
        case atStart => exact ⟨0, rfl, by omega, hs0, ho0, hb0⟩
        case round =>
          clear hs0 ho0 hb0 ho hb hsz
          obtain ⟨k, rfl, hkl, hown, ho, hb⟩ := hrel
          have hsz := hb.size
          by_cases hlt : k < L.length
          · have hz : (k : Int) < (L.length : Int) := by omega
            obtain ⟨g, rfl, hg, hc⟩ := own_at ho k hlt
            rw [strV_ba] at hc
            have HT := Lib.hid (tokK_succ L k)
            by_cases hnx : k + 1 < L.length
            · have hz2 : (k : Int) + 1 < (L.length : Int) := by omega
              obtain ⟨g2, eg, _, hc2⟩ := own_at ho (k + 1) hnx
              obtain rfl : g = g2 := by cases eg; rfl
              clear eg
              rw [strV_ba] at hc2
              have hcs : (((k + 1 : Nat) : Int)) = (k : Int) + 1 := by omega
              have hs1 := hwl k
              have hs2 := hwl (k + 1)
              have cS := fun w => rstrength_any (ba (L.getD k [])) (ba (L.getD (k + 1) [])) w (by rw [ba_size]; omega) (by rw [ba_size]; omega)
              have e : strW (ba (L.getD k [])).data.toList (ba (L.getD (k + 1) [])).data.toList = strAt L k := by unfold strAt; rw [if_pos hnx]; rfl
              rw [e] at cS
              clear e hcs
              obtain ⟨Y, hY⟩ : ∃ Y, L.getD k [] = Y := ⟨_, rfl⟩
              rw [hY] at hc cS HT
              have HS := Lib.hid (strAt_range L k)
              generalize strAt L k = N at *
              generalize ba (L.getD (k + 1) []) = Y2 at *
              clear hY hs1 hs2
              go_upto_region 17 with (go_at_call 22; refine (cS _).mono ?_; rintro e w2 ⟨rfl, hbc⟩)
              have hown2 := own_stays hown hbc
              have ho2 := own_stays ho hbc
              have hb2 := below_grow hb hsz hbc
              have hsz2 := hb2.size
              clear hown ho hb hbc hsz cS
              have hownA := hown2.alloc (.cells #[.string (ba Y), .int .i64 N] 30)
              have hoA := ho2.alloc (.cells #[.string (ba Y), .int .i64 N] 30)
              have hbA := hb2.alloc hsz2 (.cells #[.string (ba Y), .int .i64 N] 30)
              have hszA : w.heap.size ≤ (w2.alloc (.cells #[.string (ba Y), .int .i64 N] 30)).heap.size := by simp; omega
              clear hown2 ho2 hb2
              go_wp2_with (at_builtin; refine wpList_append_own _ rfl _ _ 24 rfl w.heap.size 30 i0 _ 2 24 Tryd.underlying24 hi iz0 iz1 iz2 rfl (by decide) _ _ _ rfl hownA ⟨w2.heap.size, 0, none⟩ 1 1 [.string (ba Y), .int .i64 N] rfl rfl ?c1 ?c2 ?c3 ?c4 ?c5 ?_)
              case c1 => exact cells_new _ _ _ rfl
              case c2 => simp [Value.oneCell']
              case c3 => unfold maxLen; omega
              case c4 => omega
              case c5 => first | exact hszA | omega
              · intro v' w3 hown' hgrow _
                have R := tok_step (x := (Y, N)) hownA HT.out hbA hszA hown' hgrow
                have RO : w3.ownsRow w.heap.size 9 1 (.slice (some ⟨g, 0, none⟩) L.length cp) L.length (wcells L) := hoA.kept hgrow (rows_apart (by decide) hownA hoA)
                clear hown' hgrow hownA hoA hbA hszA
                go_wp2_with fail
                go_roundw
                case rel => exact ⟨k + 1, by go_num, by omega, R.1, RO, R.2⟩
                case measure => simp [intOf]; omega
            · have hz2 : ¬ (k : Int) + 1 < (L.length : Int) := by omega
              have e : strAt L k = 5 := by unfold strAt; rw [if_neg hnx]
              obtain ⟨Y, hY⟩ : ∃ Y, L.getD k [] = Y := ⟨_, rfl⟩
              rw [hY, e] at HT
              rw [hY] at hc
              clear hY e
              have hown2 := hown
              have ho2 := ho
              have hb2 := hb
              have hsz2 := hsz
              clear hown ho hb hsz
              have hownA := hown2.alloc (.cells #[.string (ba Y), .int .i64 5] 30)
              have hoA := ho2.alloc (.cells #[.string (ba Y), .int .i64 5] 30)
              have hbA := hb2.alloc hsz2 (.cells #[.string (ba Y), .int .i64 5] 30)
              have hszA : w.heap.size ≤ (wr.alloc (.cells #[.string (ba Y), .int .i64 5] 30)).heap.size := by simp; omega
              clear hown2 ho2 hb2
              go_wp2_with (at_builtin; refine wpList_append_own _ rfl _ _ 24 rfl w.heap.size 30 i0 _ 2 24 Tryd.underlying24 hi iz0 iz1 iz2 rfl (by decide) _ _ _ rfl hownA ⟨wr.heap.size, 0, none⟩ 1 1 [.string (ba Y), .int .i64 5] rfl rfl ?d1 ?d2 ?d3 ?d4 ?d5 ?_)
              try (case d1 => exact cells_new _ _ _ rfl)
              case d2 => simp [Value.oneCell']
              case d3 => unfold maxLen; omega
              case d4 => omega
              case d5 => first | exact hszA | omega
              · intro v' w3 hown' hgrow _
                have R := tok_step (x := (Y, 5)) hownA HT.out hbA hszA hown' hgrow
                have RO : w3.ownsRow w.heap.size 9 1 (.slice (some ⟨g, 0, none⟩) L.length cp) L.length (wcells L) := hoA.kept hgrow (rows_apart (by decide) hownA hoA)
                clear hown' hgrow hownA hoA hbA hszA
                go_wp2_with fail
                go_roundw
                case rel => exact ⟨k + 1, by go_num, by omega, R.1, RO, R.2⟩
                case measure => simp [intOf]; omega
          · obtain rfl : k = L.length := by omega
            have hz : ¬ (L.length : Int) < (L.length : Int) := by omega
            have HL2 : Hid (TS = tokK L L.length) := Lib.hid HL.out.2
            go_wp2_with fail
            go_ret2
            exact made_row hb HL2.out HL.out.1.symm (by rw [tokK_len]; exact hown)
end Go.Proofs.YtheemefggkcfbaaDoor
