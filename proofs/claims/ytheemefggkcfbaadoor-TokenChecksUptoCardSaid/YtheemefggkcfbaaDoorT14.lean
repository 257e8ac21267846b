import Derived.Test.YtheemefggkcfbaaDoorT13
namespace Go.Proofs.YtheemefggkcfbaaDoor
open Go Go.Lib Go.RowKit Go.Shelf
def exS : ByteArray := ⟨#[87, 101, 108, 108, 44, 32, 116, 104, 101, 32, 32, 109, 97, 110, 32, 108, 101, 102, 116, 46, 32, 71, 111, 33]⟩
def exT : List Tk := [([87, 101, 108, 108, 44], 3), ([116, 104, 101], 0), ([109, 97, 110], 1), ([108, 101, 102, 116, 46], 5), ([71, 111, 33], 5)]
theorem exS_size : exS.size = 24 := by decide +kernel
theorem ex_split : splitE exS.data.toList = 0 ∧ splitL exS.data.toList = exT := by decide +kernel
theorem ex_len : lenT (texts exT) 1 3 = 7 := by decide +kernel
theorem ex_str0 : strW (⟨#[115, 97, 105, 100]⟩ : ByteArray).data.toList (⟨#[116, 104, 97, 116]⟩ : ByteArray).data.toList = 2 := by decide +kernel
theorem ex_str1 : strW (⟨#[116, 104, 101]⟩ : ByteArray).data.toList (⟨#[119, 104, 111]⟩ : ByteArray).data.toList = 0 := by decide +kernel
theorem ex_str2 : strW (⟨#[108, 101, 102, 116, 46, 41]⟩ : ByteArray).data.toList (⟨#[120]⟩ : ByteArray).data.toList = 5 := by decide +kernel
theorem ex_str3 : strW (⟨#[45]⟩ : ByteArray).data.toList (⟨#[120]⟩ : ByteArray).data.toList = 4 := by decide +kernel
theorem ex_str4 : strW (⟨#[41]⟩ : ByteArray).data.toList (⟨#[120]⟩ : ByteArray).data.toList = 1 := by decide +kernel
theorem own_cap {w : World} {B e size n m c : Nat} {a : Option Addr} {xs : List Value} (h : w.ownsRow B e size (.slice a m c) n xs) : n ≤ c := by
  rcases h.2 with ⟨e, h0⟩ | ⟨g, cap, cur, e, _, _, hcap, _⟩
  · omega
  · obtain ⟨_, _, rfl⟩ : a = some ⟨g, 0, none⟩ ∧ m = n ∧ c = cap := by cases e; exact ⟨rfl, rfl, rfl⟩
    exact hcap
theorem rows_lit (w : World) : RdT (w.alloc (.cells (tcells exT).toArray 30)) (some ⟨w.heap.size, 0, none⟩) exT :=
  (RdT.own (World.ownsRow_lit (base := 0) (e := 30) (size := 2) w (tcells exT).toArray 5 (Nat.zero_le _) (by unfold maxLen; omega) rfl)).1
set_option maxHeartbeats 4000000 in
theorem awake_any (w : World) (hE : Env w) : Calls Tryd.prog 16 #[] w fun e w' => e = .returned (.bool true) ∧ Below w.heap.size w w' := by
  have c1 := split_any' exS w (by rw [exS_size]; decide) hE
  rw [ex_split.1, ex_split.2] at c1
  have HL := Lib.hid ex_len
  have cs0 := fun w hE => strength_any ⟨#[115, 97, 105, 100]⟩ ⟨#[116, 104, 97, 116]⟩ w (by decide) (by decide) hE
  rw [ex_str0] at cs0
  have cs1 := fun w hE => strength_any ⟨#[116, 104, 101]⟩ ⟨#[119, 104, 111]⟩ w (by decide) (by decide) hE
  rw [ex_str1] at cs1
  have cs2 := fun w hE => strength_any ⟨#[108, 101, 102, 116, 46, 41]⟩ ⟨#[120]⟩ w (by decide) (by decide) hE
  rw [ex_str2] at cs2
  have cs3 := fun w hE => strength_any ⟨#[45]⟩ ⟨#[120]⟩ w (by decide) (by decide) hE
  rw [ex_str3] at cs3
  have cs4 := fun w hE => strength_any ⟨#[41]⟩ ⟨#[120]⟩ w (by decide) (by decide) hE
  rw [ex_str4] at cs4
  change Calls Tryd.prog 18 #[.string ⟨#[87, 101, 108, 108, 44, 32, 116, 104, 101, 32, 32, 109, 97, 110, 32, 108, 101, 102, 116, 46, 32, 71, 111, 33]⟩] w _ at c1
  go_enter Tryd.func16, Tryd.ntmps16
  go_wp2_with fail
  refine c1.mono ?_
  rintro e w1 ⟨v, rfl, ho, hb1⟩
  clear c1
  obtain ⟨a, c, rfl⟩ := own_len ho
  obtain ⟨R1, _, _⟩ := RdT.own ho
  go_upto_region 3 with fail
  have R2 : RdT (w1.alloc (.cells #[.string ⟨#[87, 101, 108, 108, 44]⟩, .int .i64 3, .string ⟨#[116, 104, 101]⟩, .int .i64 0, .string ⟨#[109, 97, 110]⟩, .int .i64 1, .string ⟨#[108, 101, 102, 116, 46]⟩, .int .i64 5, .string ⟨#[71, 111, 33]⟩, .int .i64 5] 30)) (some ⟨w1.heap.size, 0, none⟩) exT := rows_lit w1
  have hb2 := hb1.alloc hb1.size (.cells #[.string ⟨#[87, 101, 108, 108, 44]⟩, .int .i64 3, .string ⟨#[116, 104, 101]⟩, .int .i64 0, .string ⟨#[109, 97, 110]⟩, .int .i64 1, .string ⟨#[108, 101, 102, 116, 46]⟩, .int .i64 5, .string ⟨#[71, 111, 33]⟩, .int .i64 5] 30)
  have R1' := R1.stays (below1 (w := w1) (.cells #[.string ⟨#[87, 101, 108, 108, 44]⟩, .int .i64 3, .string ⟨#[116, 104, 101]⟩, .int .i64 0, .string ⟨#[109, 97, 110]⟩, .int .i64 1, .string ⟨#[108, 101, 102, 116, 46]⟩, .int .i64 5, .string ⟨#[71, 111, 33]⟩, .int .i64 5] 30) (Nat.le_refl _))
  generalize w1.alloc (.cells #[.string ⟨#[87, 101, 108, 108, 44]⟩, .int .i64 3, .string ⟨#[116, 104, 101]⟩, .int .i64 0, .string ⟨#[109, 97, 110]⟩, .int .i64 1, .string ⟨#[108, 101, 102, 116, 46]⟩, .int .i64 5, .string ⟨#[71, 111, 33]⟩, .int .i64 5] 30) = W2 at *
  generalize w1.heap.size = G at *
  have cE := equal_any a (some ⟨G, 0, none⟩) exT.length 5 c 5 exT exT W2 rfl rfl (by decide) (by decide) R1' R2
  have HI : Hid (decide (exT = exT) = true) := Lib.hid (by simp)
  have hlc : exT.length ≤ c := own_cap ho
  have cN := fun w hE hR => tlen_any a exT.length c 1 3 exT w rfl hlc (by decide) (by decide) hE hR
  rw [HI.out] at cE
  go_wp2_with fail
  refine cE.mono ?_
  rintro e w3 ⟨rfl, hb3⟩
  have hbb := below_grow hb2 hb2.size hb3
  have cN1 := cN w3 (hE.below hbb) (R1'.stays hb3)
  rw [HL.out] at cN1
  clear cE cN R1 R1' R2 ho hb1 hb2 hb3
  go_wp2_with fail
  refine cN1.mono ?_
  rintro e w4 ⟨rfl, hb4⟩
  have hbc := below_trans hbb hb4
  clear cN1 hbb hb4
  go_wp2_with fail
  refine (cs0 _ (hE.below hbc)).mono ?_
  rintro e v0 ⟨rfl, hd0⟩
  have he0 := below_trans hbc hd0
  go_wp2_with fail
  refine (cs1 _ (hE.below he0)).mono ?_
  rintro e v1 ⟨rfl, hd1⟩
  have he1 := below_trans he0 hd1
  go_wp2_with fail
  refine (cs2 _ (hE.below he1)).mono ?_
  rintro e v2 ⟨rfl, hd2⟩
  have he2 := below_trans he1 hd2
  go_wp2_with fail
  refine (cs3 _ (hE.below he2)).mono ?_
  rintro e v3 ⟨rfl, hd3⟩
  have he3 := below_trans he2 hd3
  go_wp2_with fail
  refine (cs4 _ (hE.below he3)).mono ?_
  rintro e v4 ⟨rfl, hd4⟩
  have he4 := below_trans he3 hd4
  go_wp2_with fail
  go_ret
  exact ⟨rfl, he4⟩
end Go.Proofs.YtheemefggkcfbaaDoor
