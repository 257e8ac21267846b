import Derived.Test.YtheemefggkcfbaaDoorR2
namespace Go.Proofs.YtheemefggkcfbaaDoor
open Go Go.Lib Go.RowKit Go.Shelf
def CodePost (r : Int) (w : World) (e : Ending) (w' : World) : Prop := ∃ x y, e = .returned (.tuple #[.int .u8 x, .int .u8 y, .int .u8 (kindC r)]) ∧ Below w.heap.size w w'
theorem code_post {r x y z : Int} {w w' : World} (h : z = kindC r) (hb : Below w.heap.size w w') : CodePost r w (.returned (.tuple #[.int .u8 x, .int .u8 y, .int .u8 z])) w' := by
  subst h; exact ⟨x, y, rfl, hb⟩
theorem kind1 {r : Int} (h : memI basicL r = true) : 1 = kindC r := by
  rw [basic_eq] at h
  unfold kindC ccBL; rw [h]; rfl
theorem kind2 {r : Int} (h : memI basicL r = false) (h2 : memI ccSL r = true) : 2 = kindC r := by
  rw [basic_eq] at h
  unfold kindC ccBL; rw [h, h2]; rfl
theorem kind3 {r : Int} (h : memI basicL r = false) (h2 : memI ccSL r = false) (h3 : memI ccFL r = true) : 3 = kindC r := by
  rw [basic_eq] at h
  unfold kindC ccBL; rw [h, h2, h3]; rfl
theorem kind4 {r : Int} (h : memI basicL r = false) (h2 : memI ccSL r = false) (h3 : memI ccFL r = false) (h4 : memI ccTL r = true) : 3 = kindC r := by
  rw [basic_eq] at h
  unfold kindC ccBL; rw [h, h2, h3, h4]; rfl
theorem kind0 {r : Int} (h : memI basicL r = false) (h2 : memI ccSL r = false) (h3 : memI ccFL r = false) (h4 : memI ccTL r = false) : 0 = kindC r := by
  rw [basic_eq] at h
  unfold kindC ccBL; rw [h, h2, h3, h4]; rfl
theorem findR_pos {l : List Nat} {r : Int} (h : memI l r = true) : 0 ≤ findR l r 0 := by
  have := findR_mem l r 0 (Int.le_refl _)
  rw [h] at this
  exact of_decide_eq_true this
theorem findR_neg {l : List Nat} {r : Int} (h : memI l r = false) : findR l r 0 < 0 := by
  have := findR_mem l r 0 (Int.le_refl _)
  rw [h] at this
  have := of_decide_eq_false this
  omega
set_option maxHeartbeats 4000000 in
set_option maxRecDepth 100000 in
theorem code_any (r : Int) (w : World) : Calls Tryd.prog 121 #[.int .i32 r] w (CodePost r w) := by
  have cS := fun w => cindex_any ccS r w (by rw [ccS_size]; decide)
  have cF := fun w => cindex_any ccF r w (by rw [ccF_size]; decide)
  have cT := fun w => cindex_any ccT r w (by rw [ccT_size]; decide)
  have gS := findR_ge (runes ccS.data.toList) r 0 (Int.le_refl _)
  have gF := findR_ge (runes ccF.data.toList) r 0 (Int.le_refl _)
  have gT := findR_ge (runes ccT.data.toList) r 0 (Int.le_refl _)
  rw [ccS_len] at gS
  rw [ccF_len] at gF
  rw [ccT_len] at gT
  have HS := Lib.hid (⟨@findR_pos ccSL r, @findR_neg ccSL r⟩ : (memI ccSL r = true → 0 ≤ findR ccSL r 0) ∧ (memI ccSL r = false → findR ccSL r 0 < 0))
  have HF := Lib.hid (⟨@findR_pos ccFL r, @findR_neg ccFL r⟩ : (memI ccFL r = true → 0 ≤ findR ccFL r 0) ∧ (memI ccFL r = false → findR ccFL r 0 < 0))
  have HT := Lib.hid (⟨@findR_pos ccTL r, @findR_neg ccTL r⟩ : (memI ccTL r = true → 0 ≤ findR ccTL r 0) ∧ (memI ccTL r = false → findR ccTL r 0 < 0))
  have K1 := Lib.hid (@kind1 r)
  have K2 := Lib.hid (@kind2 r)
  have K3 := Lib.hid (@kind3 r)
  have K4 := Lib.hid (@kind4 r)
  have K0 := Lib.hid (@kind0 r)
  change ∀ w, Calls Tryd.prog 139 #[.string ccS, .int .i32 r] w fun e w' => e = .returned (.int .i64 (findR ccSL r 0)) ∧ Below w.heap.size w w' at cS
  change ∀ w, Calls Tryd.prog 139 #[.string ccF, .int .i32 r] w fun e w' => e = .returned (.int .i64 (findR ccFL r 0)) ∧ Below w.heap.size w w' at cF
  change ∀ w, Calls Tryd.prog 139 #[.string ccT, .int .i32 r] w fun e w' => e = .returned (.int .i64 (findR ccTL r 0)) ∧ Below w.heap.size w w' at cT
  change -1 ≤ findR ccSL r 0 ∧ findR ccSL r 0 ≤ 0 + (16 : Nat) at gS
  change -1 ≤ findR ccFL r 0 ∧ findR ccFL r 0 ≤ 0 + (32 : Nat) at gF
  change -1 ≤ findR ccTL r 0 ∧ findR ccTL r 0 ≤ 0 + (32 : Nat) at gT
  generalize findR ccSL r 0 = iS at *
  generalize findR ccFL r 0 = iF at *
  generalize findR ccTL r 0 = iT at *
  generalize memI ccSL r = mS at *
  generalize memI ccFL r = mF at *
  generalize memI ccTL r = mT at *
  go_enter Tryd.func121, Tryd.ntmps121
  go_wp2_with fail
  go_loop [5] (fun v => ∃ i : Nat, v = .int .u8 ((i + 32 : Nat) : Int) ∧ i ≤ 96 ∧ Hid (memI (basicL.drop i) r = memI basicL r)) (fun v => (128 - intOf v).toNat)
  case atStart => exact ⟨0, rfl, by omega, Lib.hid (by rw [List.drop_zero])⟩
  case round =>
    obtain ⟨i, rfl, hi, HI⟩ := hrel
    by_cases hlt : i < 96
    · have hz : ((i + 32 : Nat) : Int) ≤ 127 := by omega
      have cB := basic_any (i + 32) (by omega)
      have hst := basicN_at i hlt
      by_cases hx : (basicN (i + 32) : Int) = r
      · have HK : Hid (1 = kindC r) := Lib.hid (K1.out (by rw [← HI.out, hst, memI_cons, decide_eq_true hx]; rfl))
        have hxr : ((basicN (i + 32) : Int) == r) = true := by simp [hx]
        clear hst HI K1 K2 K3 K4 K0 cS cF cT hx
        generalize (basicN (i + 32) : Int) = X at *
        go_wp2_with (go_at_call 138; refine (cB _).mono ?_; rintro e w2 ⟨rfl, rfl⟩)
        go_ret3
        exact code_post HK.out (Below.refl _ _)
      · have HI2 : Hid (memI (basicL.drop (i + 1)) r = memI basicL r) := Lib.hid (by rw [← HI.out, hst, memI_cons, decide_eq_false hx]; rfl)
        have hxr : ((basicN (i + 32) : Int) == r) = false := by simpa using hx
        clear hst HI K1 K2 K3 K4 K0 cS cF cT hx
        generalize (basicN (i + 32) : Int) = X at *
        go_wp2_with (go_at_call 138; refine (cB _).mono ?_; rintro e w2 ⟨rfl, rfl⟩)
        go_round
        case rel => exact ⟨i + 1, by go_num, by omega, HI2⟩
        case measure => simp [intOf]; omega
    · obtain rfl : i = 96 := by omega
      have hB : memI basicL r = false := by rw [← HI.out]; rfl
      have HB := Lib.hid hB
      clear hB HI
      have hz : ¬ ((96 + 32 : Nat) : Int) ≤ 127 := by omega
      cases mS
      · have h1 := HS.out.2 rfl
        cases mF
        · have h2 := HF.out.2 rfl
          cases mT
          · have h3 := HT.out.2 rfl
            have HK := Lib.hid (K0.out HB.out rfl rfl rfl)
            clear HS HF HT K1 K2 K3 K4 K0 HB
            go_wp2_with fail
            refine (cS _).mono ?_
            rintro e w2 ⟨rfl, hb2⟩
            go_wp2_with fail
            refine (cF _).mono ?_
            rintro e w3 ⟨rfl, hb3⟩
            go_wp2_with fail
            refine (cT _).mono ?_
            rintro e w4 ⟨rfl, hb4⟩
            go_wp2_with fail
            go_ret3
            exact code_post HK.out (below_trans (below_trans hb2 hb3) hb4)
          · have h3 := HT.out.1 rfl
            have HK := Lib.hid (K4.out HB.out rfl rfl rfl)
            clear HS HF HT K1 K2 K3 K4 K0 HB
            go_wp2_with fail
            refine (cS _).mono ?_
            rintro e w2 ⟨rfl, hb2⟩
            go_wp2_with fail
            refine (cF _).mono ?_
            rintro e w3 ⟨rfl, hb3⟩
            go_wp2_with fail
            refine (cT _).mono ?_
            rintro e w4 ⟨rfl, hb4⟩
            go_wp2_with fail
            go_ret3
            exact code_post HK.out (below_trans (below_trans hb2 hb3) hb4)
        · have h2 := HF.out.1 rfl
          have HK := Lib.hid (K3.out HB.out rfl rfl)
          clear HS HF HT K1 K2 K3 K4 K0 HB
          go_wp2_with fail
          refine (cS _).mono ?_
          rintro e w2 ⟨rfl, hb2⟩
          go_wp2_with fail
          refine (cF _).mono ?_
          rintro e w3 ⟨rfl, hb3⟩
          go_wp2_with fail
          go_ret3
          exact code_post HK.out (below_trans hb2 hb3)
      · have h1 := HS.out.1 rfl
        have HK := Lib.hid (K2.out HB.out rfl)
        clear HS HF HT K1 K2 K3 K4 K0 HB
        go_wp2_with fail
        refine (cS _).mono ?_
        rintro e w2 ⟨rfl, hb2⟩
        go_wp2_with fail
        go_ret3
        exact code_post HK.out (hb2)
set_option maxHeartbeats 1000000 in
theorem kind_any (r : Int) (w : World) : Calls Tryd.prog 103 #[.int .i32 r] w fun e w' => e = .returned (.int .u8 (kindC r)) ∧ Below w.heap.size w w' := by
  have c : Calls Tryd.prog 121 #[.int .i32 r] w fun e w' => ∃ x y, e = .returned (.tuple #[.int .u8 x, .int .u8 y, .int .u8 (kindC r)]) ∧ Below w.heap.size w w' := code_any r w
  generalize kindC r = K at *
  go_enter Tryd.func103, Tryd.ntmps103
  go_wp2_with fail
  refine c.mono ?_
  rintro e w1 ⟨x, y, rfl, hb⟩
  go_wp2_with fail
  go_ret
  exact ⟨rfl, hb⟩
/-- Is a character carried? -/
def inCC (r : Nat) : Bool := !(kindC (r : Int) == 0)
theorem notCC (r : Nat) : (!inCC r) = (kindC (r : Int) == 0) := by simp [inCC]
set_option maxHeartbeats 1000000 in
theorem noCC_any (r : Nat) (w : World) : Calls Tryd.prog 102 #[.int .i32 r] w fun e w' => e = .returned (.bool (!inCC r)) ∧ Below w.heap.size w w' := by
  have c := kind_any (r : Int) w
  have H := Lib.hid (notCC r)
  generalize kindC (r : Int) = K at *
  generalize (!inCC r) = Z at *
  go_enter Tryd.func102, Tryd.ntmps102
  go_wp2_with fail
  refine c.mono ?_
  rintro e w1 ⟨rfl, hb⟩
  go_wp2_with fail
  go_ret
  exact ⟨ret_bool H.out.symm, hb⟩
end Go.Proofs.YtheemefggkcfbaaDoor
