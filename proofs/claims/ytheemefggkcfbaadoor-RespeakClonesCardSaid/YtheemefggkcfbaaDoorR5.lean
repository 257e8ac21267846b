import Derived.Test.YtheemefggkcfbaaDoorR4
namespace Go.Proofs.YtheemefggkcfbaaDoor
open Go Go.Lib Go.RowKit Go.Shelf
/-- What the reference's Encode tells of the kind. -/
def EncOk (k x er : Int) : Prop := (k = 0 ∧ er = 10) ∨ (k = 1 ∧ er = 0 ∧ 32 ≤ x ∧ x ≤ 255) ∨ (k = 2 ∧ er = 0 ∧ x = 17) ∨ (k = 3 ∧ er = 0 ∧ (x = 18 ∨ x = 19))
def EncPost (r : Int) (w : World) (e : Ending) (w' : World) : Prop := ∃ x y er, e = .returned (.tuple #[.int .u8 x, .int .u8 y, .int .i64 er]) ∧ EncOk (kindC r) x er ∧ Below w.heap.size w w'
theorem enc_post {r x y er : Int} {w w' : World} (h : EncOk (kindC r) x er) (hb : Below w.heap.size w w') : EncPost r w (.returned (.tuple #[.int .u8 x, .int .u8 y, .int .i64 er])) w' := ⟨x, y, er, rfl, h, hb⟩
set_option maxHeartbeats 4000000 in
set_option maxRecDepth 100000 in
theorem enc_any (r : Int) (w : World) : Calls Tryd.prog 122 #[.int .i32 r] w (EncPost r w) := by
  have cB := fun w => ccindex_any ccB r w (by rw [ccB_size]; decide)
  have cS := fun w => ccindex_any ccS r w (by rw [ccS_size]; decide)
  have cF := fun w => ccindex_any ccF r w (by rw [ccF_size]; decide)
  have cT := fun w => ccindex_any ccT r w (by rw [ccT_size]; decide)
  have gB := findR_ge (runes ccB.data.toList) r 0 (Int.le_refl _)
  rw [ccB_len] at gB
  have HB := Lib.hid (⟨@findR_pos ccBL r, @findR_neg ccBL r⟩ : (memI ccBL r = true → 0 ≤ findR ccBL r 0) ∧ (memI ccBL r = false → findR ccBL r 0 < 0))
  change ∀ w, Calls Tryd.prog 140 #[.string ccB, .int .i32 r] w fun e w' => e = .returned (.int .i64 (findR ccBL r 0)) ∧ Below w.heap.size w w' at cB
  change -1 ≤ findR ccBL r 0 ∧ findR ccBL r 0 ≤ 0 + (96 : Nat) at gB
  have gS := findR_ge (runes ccS.data.toList) r 0 (Int.le_refl _)
  rw [ccS_len] at gS
  have HS := Lib.hid (⟨@findR_pos ccSL r, @findR_neg ccSL r⟩ : (memI ccSL r = true → 0 ≤ findR ccSL r 0) ∧ (memI ccSL r = false → findR ccSL r 0 < 0))
  change ∀ w, Calls Tryd.prog 140 #[.string ccS, .int .i32 r] w fun e w' => e = .returned (.int .i64 (findR ccSL r 0)) ∧ Below w.heap.size w w' at cS
  change -1 ≤ findR ccSL r 0 ∧ findR ccSL r 0 ≤ 0 + (16 : Nat) at gS
  have gF := findR_ge (runes ccF.data.toList) r 0 (Int.le_refl _)
  rw [ccF_len] at gF
  have HF := Lib.hid (⟨@findR_pos ccFL r, @findR_neg ccFL r⟩ : (memI ccFL r = true → 0 ≤ findR ccFL r 0) ∧ (memI ccFL r = false → findR ccFL r 0 < 0))
  change ∀ w, Calls Tryd.prog 140 #[.string ccF, .int .i32 r] w fun e w' => e = .returned (.int .i64 (findR ccFL r 0)) ∧ Below w.heap.size w w' at cF
  change -1 ≤ findR ccFL r 0 ∧ findR ccFL r 0 ≤ 0 + (32 : Nat) at gF
  have gT := findR_ge (runes ccT.data.toList) r 0 (Int.le_refl _)
  rw [ccT_len] at gT
  have HT := Lib.hid (⟨@findR_pos ccTL r, @findR_neg ccTL r⟩ : (memI ccTL r = true → 0 ≤ findR ccTL r 0) ∧ (memI ccTL r = false → findR ccTL r 0 < 0))
  change ∀ w, Calls Tryd.prog 140 #[.string ccT, .int .i32 r] w fun e w' => e = .returned (.int .i64 (findR ccTL r 0)) ∧ Below w.heap.size w w' at cT
  change -1 ≤ findR ccTL r 0 ∧ findR ccTL r 0 ≤ 0 + (32 : Nat) at gT
  have e1 := @kind1 r
  have e2 := @kind2 r
  have e3 := @kind3 r
  have e4 := @kind4 r
  have e0 := @kind0 r
  rw [show basicL = ccBL from basic_eq] at e1 e2 e3 e4 e0
  have K1 := Lib.hid e1
  have K2 := Lib.hid e2
  have K3 := Lib.hid e3
  have K4 := Lib.hid e4
  have K0 := Lib.hid e0
  clear e1 e2 e3 e4 e0
  generalize findR ccBL r 0 = iB at *
  generalize findR ccSL r 0 = iS at *
  generalize findR ccFL r 0 = iF at *
  generalize findR ccTL r 0 = iT at *
  generalize memI ccBL r = mB at *
  generalize memI ccSL r = mS at *
  generalize memI ccFL r = mF at *
  generalize memI ccTL r = mT at *
  cases mB
  · have h0 := HB.out.2 rfl
    cases mS
    · have h1 := HS.out.2 rfl
      cases mF
      · have h2 := HF.out.2 rfl
        cases mT
        · have h3 := HT.out.2 rfl
          have HK := Lib.hid (K0.out rfl rfl rfl rfl)
          clear HB HS HF HT K1 K2 K3 K4 K0
          go_enter Tryd.func122, Tryd.ntmps122
          go_wp2_with fail
          refine (cB _).mono ?_
          rintro e w2 ⟨rfl, hb2⟩
          go_wp2_with fail
          refine (cS _).mono ?_
          rintro e w3 ⟨rfl, hb3⟩
          go_wp2_with fail
          refine (cF _).mono ?_
          rintro e w4 ⟨rfl, hb4⟩
          go_wp2_with fail
          refine (cT _).mono ?_
          rintro e w5 ⟨rfl, hb5⟩
          go_wp2_with fail
          go_ret3
          exact enc_post (Or.inl ⟨HK.out.symm, rfl⟩) (below_trans (below_trans (below_trans (hb2) hb3) hb4) hb5)
        · have h3 := HT.out.1 rfl
          have HK := Lib.hid (K4.out rfl rfl rfl rfl)
          clear HB HS HF HT K1 K2 K3 K4 K0
          go_enter Tryd.func122, Tryd.ntmps122
          go_wp2_with fail
          refine (cB _).mono ?_
          rintro e w2 ⟨rfl, hb2⟩
          go_wp2_with fail
          refine (cS _).mono ?_
          rintro e w3 ⟨rfl, hb3⟩
          go_wp2_with fail
          refine (cF _).mono ?_
          rintro e w4 ⟨rfl, hb4⟩
          go_wp2_with fail
          refine (cT _).mono ?_
          rintro e w5 ⟨rfl, hb5⟩
          go_wp2_with fail
          go_ret3
          exact enc_post (Or.inr (Or.inr (Or.inr ⟨HK.out.symm, rfl, Or.inr rfl⟩))) (below_trans (below_trans (below_trans (hb2) hb3) hb4) hb5)
      · have h2 := HF.out.1 rfl
        have HK := Lib.hid (K3.out rfl rfl rfl)
        clear HB HS HF HT K1 K2 K3 K4 K0
        go_enter Tryd.func122, Tryd.ntmps122
        go_wp2_with fail
        refine (cB _).mono ?_
        rintro e w2 ⟨rfl, hb2⟩
        go_wp2_with fail
        refine (cS _).mono ?_
        rintro e w3 ⟨rfl, hb3⟩
        go_wp2_with fail
        refine (cF _).mono ?_
        rintro e w4 ⟨rfl, hb4⟩
        go_wp2_with fail
        go_ret3
        exact enc_post (Or.inr (Or.inr (Or.inr ⟨HK.out.symm, rfl, Or.inl rfl⟩))) (below_trans (below_trans (hb2) hb3) hb4)
    · have h1 := HS.out.1 rfl
      have HK := Lib.hid (K2.out rfl rfl)
      clear HB HS HF HT K1 K2 K3 K4 K0
      go_enter Tryd.func122, Tryd.ntmps122
      go_wp2_with fail
      refine (cB _).mono ?_
      rintro e w2 ⟨rfl, hb2⟩
      go_wp2_with fail
      refine (cS _).mono ?_
      rintro e w3 ⟨rfl, hb3⟩
      go_wp2_with fail
      go_ret3
      exact enc_post (Or.inr (Or.inr (Or.inl ⟨HK.out.symm, rfl, rfl⟩))) (below_trans (hb2) hb3)
  · have h0 := HB.out.1 rfl
    have HK := Lib.hid (K1.out rfl)
    clear HB HS HF HT K1 K2 K3 K4 K0
    go_enter Tryd.func122, Tryd.ntmps122
    go_wp2_with fail
    refine (cB _).mono ?_
    rintro e w2 ⟨rfl, hb2⟩
    go_wp2_with fail
    go_ret3
    exact enc_post (Or.inr (Or.inl ⟨HK.out.symm, rfl, by omega, by omega⟩)) (hb2)
set_option maxHeartbeats 1000000 in
theorem rkind_any (r : Int) (w : World) : Calls Tryd.prog 104 #[.int .i32 r] w fun e w' => e = .returned (.int .u8 (kindC r)) ∧ Below w.heap.size w w' := by
  have c : Calls Tryd.prog 122 #[.int .i32 r] w fun e w' => ∃ x y er, e = .returned (.tuple #[.int .u8 x, .int .u8 y, .int .i64 er]) ∧ EncOk (kindC r) x er ∧ Below w.heap.size w w' := enc_any r w
  generalize kindC r = K at *
  go_enter Tryd.func104, Tryd.ntmps104
  go_wp2_with fail
  refine c.mono ?_
  rintro e w1 ⟨x, y, er, rfl, hk, hb⟩
  rcases hk with ⟨rfl, rfl⟩ | ⟨rfl, rfl, h1, h2⟩ | ⟨rfl, rfl, rfl⟩ | ⟨rfl, rfl, rfl | rfl⟩
  all_goals
    go_wp2_with fail
    go_ret
    exact ⟨rfl, hb⟩
end Go.Proofs.YtheemefggkcfbaaDoor
