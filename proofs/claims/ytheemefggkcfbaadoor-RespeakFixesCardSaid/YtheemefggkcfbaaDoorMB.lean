import Derived.Test.YtheemefggkcfbaaDoorMA
import Derived.Laws.IdiomStrings
import Derived.Deep.DeepCutAuto
import Derived.Shelf.Strings.FuncGrows
import Derived.Shelf.Strings.Replace
import Derived.Shelf.Strings.FieldsAny
import Derived.Shelf.SlicesE.DeleteFunc
import Derived.Shelf.Strings.AsciiSet
import Derived.Shelf.Strings.IndexAny
import Derived.WalkMore
import Derived.ScopeJumps
import Derived.Deep.RegionWith
import Derived.Deep.CutBlock
import Derived.Lib.QuoteLoop
namespace Go.Proofs.YtheemefggkcfbaaDoor
open Go Go.Lib Go.RowKit Go.Shelf
/-! ### the characters of the caption service -/
def ccB : ByteArray := ⟨#[32, 33, 34, 35, 36, 37, 38, 226, 128, 153, 40, 41, 195, 161, 43, 44, 45, 46, 47, 48, 49, 50, 51, 52, 53, 54, 55, 56, 57, 58, 59, 60, 61, 62, 63, 64, 65, 66, 67, 68, 69, 70, 71, 72, 73, 74, 75, 76, 77, 78, 79, 80, 81, 82, 83, 84, 85, 86, 87, 88, 89, 90, 91, 195, 169, 93, 195, 173, 195, 179, 195, 186, 97, 98, 99, 100, 101, 102, 103, 104, 105, 106, 107, 108, 109, 110, 111, 112, 113, 114, 115, 116, 117, 118, 119, 120, 121, 122, 195, 167, 195, 183, 195, 145, 195, 177, 226, 150, 136]⟩
def ccS : ByteArray := ⟨#[194, 174, 194, 176, 194, 189, 194, 191, 226, 132, 162, 194, 162, 194, 163, 226, 153, 170, 195, 160, 194, 160, 195, 168, 195, 162, 195, 170, 195, 174, 195, 180, 195, 187]⟩
def ccF : ByteArray := ⟨#[195, 129, 195, 137, 195, 147, 195, 154, 195, 156, 195, 188, 226, 128, 152, 194, 161, 42, 39, 226, 128, 148, 194, 169, 226, 132, 160, 226, 128, 162, 226, 128, 156, 226, 128, 157, 195, 128, 195, 130, 195, 135, 195, 136, 195, 138, 195, 139, 195, 171, 195, 142, 195, 143, 195, 175, 195, 148, 195, 153, 195, 185, 195, 155, 194, 171, 194, 187]⟩
def ccT : ByteArray := ⟨#[195, 131, 195, 163, 195, 141, 195, 140, 195, 172, 195, 146, 195, 178, 195, 149, 195, 181, 123, 125, 92, 94, 95, 194, 166, 126, 195, 132, 195, 164, 195, 150, 195, 182, 195, 159, 194, 165, 194, 164, 124, 195, 133, 195, 165, 195, 152, 195, 184, 226, 148, 140, 226, 148, 144, 226, 148, 148, 226, 148, 152]⟩
def basicN (b : Nat) : Nat := if b = 39 then 8217 else if b = 42 then 225 else if b = 92 then 233 else if b = 94 then 237 else if b = 95 then 243 else if b = 96 then 250 else if b = 123 then 231 else if b = 124 then 247 else if b = 125 then 209 else if b = 126 then 241 else if b = 127 then 9608 else b
def memI (l : List Nat) (r : Int) : Bool := l.any fun x => decide ((x : Int) = r)
theorem memI_cons (x : Nat) (l : List Nat) (r : Int) : memI (x :: l) r = (decide ((x : Int) = r) || memI l r) := rfl
theorem findR_mem : ∀ (l : List Nat) (r n : Int), 0 ≤ n → (decide (0 ≤ findR l r n) = memI l r)
  | [], r, n, _ => by simp [findR, memI]
  | x :: t, r, n, h => by
    unfold findR
    rw [memI_cons]
    by_cases hx : (x : Int) = r
    · rw [if_pos hx, decide_eq_true hx, Bool.true_or, decide_eq_true h]
    · rw [if_neg hx, decide_eq_false hx, Bool.false_or]; exact findR_mem t r (n + 1) (by omega)
def basicL : List Nat := (List.range 96).map fun i => basicN (i + 32)
theorem basic_eq : basicL = runes ccB.data.toList := by decide +kernel
def ccBL : List Nat := runes ccB.data.toList
def ccSL : List Nat := runes ccS.data.toList
def ccFL : List Nat := runes ccF.data.toList
def ccTL : List Nat := runes ccT.data.toList
/-- The kind of a character. -/
def kindC (r : Int) : Int := if memI ccBL r then 1 else if memI ccSL r then 2 else if memI ccFL r then 3 else if memI ccTL r then 3 else 0
theorem basicL_len : basicL.length = 96 := rfl
theorem ccB_size : ccB.size = 109 := by decide +kernel
theorem ccS_size : ccS.size = 34 := by decide +kernel
theorem ccF_size : ccF.size = 68 := by decide +kernel
theorem ccT_size : ccT.size = 61 := by decide +kernel
theorem ccB_len : (runes ccB.data.toList).length = 96 := by decide +kernel
theorem ccS_len : (runes ccS.data.toList).length = 16 := by decide +kernel
theorem ccF_len : (runes ccF.data.toList).length = 32 := by decide +kernel
theorem ccT_len : (runes ccT.data.toList).length = 32 := by decide +kernel
theorem kind_bad : kindC 65533 = 0 := by decide +kernel
theorem basicN_at (i : Nat) (h : i < 96) : basicL.drop i = basicN (i + 32) :: basicL.drop (i + 1) := by
  rw [List.drop_eq_getElem_cons (by rw [basicL_len]; exact h)]
  simp [basicL]
theorem basicN_le (b : Nat) (h : b ≤ 127) : basicN b ≤ 1114111 := by
  unfold basicN
  repeat' split
  all_goals omega

set_option maxHeartbeats 4000000 in
theorem basic_any (b : Nat) (h : b ≤ 127) (w : World) : Calls Tryd.prog 138 #[.int .u8 b] w fun e w' => e = .returned (.int .i32 (basicN b)) ∧ w = w' := by
  by_cases h39 : b = 39
  · subst h39
    go_enter Tryd.func138, Tryd.ntmps138
    go_wp2
    go_ret
    exact ⟨rfl, rfl⟩
  by_cases h42 : b = 42
  · subst h42
    go_enter Tryd.func138, Tryd.ntmps138
    go_wp2
    go_ret
    exact ⟨rfl, rfl⟩
  by_cases h92 : b = 92
  · subst h92
    go_enter Tryd.func138, Tryd.ntmps138
    go_wp2
    go_ret
    exact ⟨rfl, rfl⟩
  by_cases h94 : b = 94
  · subst h94
    go_enter Tryd.func138, Tryd.ntmps138
    go_wp2
    go_ret
    exact ⟨rfl, rfl⟩
  by_cases h95 : b = 95
  · subst h95
    go_enter Tryd.func138, Tryd.ntmps138
    go_wp2
    go_ret
    exact ⟨rfl, rfl⟩
  by_cases h96 : b = 96
  · subst h96
    go_enter Tryd.func138, Tryd.ntmps138
    go_wp2
    go_ret
    exact ⟨rfl, rfl⟩
  by_cases h123 : b = 123
  · subst h123
    go_enter Tryd.func138, Tryd.ntmps138
    go_wp2
    go_ret
    exact ⟨rfl, rfl⟩
  by_cases h124 : b = 124
  · subst h124
    go_enter Tryd.func138, Tryd.ntmps138
    go_wp2
    go_ret
    exact ⟨rfl, rfl⟩
  by_cases h125 : b = 125
  · subst h125
    go_enter Tryd.func138, Tryd.ntmps138
    go_wp2
    go_ret
    exact ⟨rfl, rfl⟩
  by_cases h126 : b = 126
  · subst h126
    go_enter Tryd.func138, Tryd.ntmps138
    go_wp2
    go_ret
    exact ⟨rfl, rfl⟩
  by_cases h127 : b = 127
  · subst h127
    go_enter Tryd.func138, Tryd.ntmps138
    go_wp2
    go_ret
    exact ⟨rfl, rfl⟩
  have e : basicN b = b := by unfold basicN; simp [h39, h42, h92, h94, h95, h96, h123, h124, h125, h126, h127]
  rw [e]
  clear e
  have z39 : ((b : Int) == 39) = false := by simp; omega
  have z42 : ((b : Int) == 42) = false := by simp; omega
  have z92 : ((b : Int) == 92) = false := by simp; omega
  have z94 : ((b : Int) == 94) = false := by simp; omega
  have z95 : ((b : Int) == 95) = false := by simp; omega
  have z96 : ((b : Int) == 96) = false := by simp; omega
  have z123 : ((b : Int) == 123) = false := by simp; omega
  have z124 : ((b : Int) == 124) = false := by simp; omega
  have z125 : ((b : Int) == 125) = false := by simp; omega
  have z126 : ((b : Int) == 126) = false := by simp; omega
  have z127 : ((b : Int) == 127) = false := by simp; omega
  clear h39 h42 h92 h94 h95 h96 h123 h124 h125 h126 h127
  go_enter Tryd.func138, Tryd.ntmps138
  go_wp2
  go_ret
  exact ⟨ret_int (by rfl), rfl⟩
end Go.Proofs.YtheemefggkcfbaaDoor
namespace Go.Proofs.YtheemefggkcfbaaDoor
open Go Go.Lib Go.RowKit Go.Shelf
theorem runesFrom_eq (s : ByteArray) : ∀ (f i : Nat) (acc : Array Value), s.size ≤ i + f → (Conv.runesFrom s f i acc).toList = acc.toList ++ rcells (runesAt s i)
  | 0, i, acc, h => by rw [runesAt_end s i (by omega)]; simp [Conv.runesFrom, rcells]
  | f + 1, i, acc, h => by
    unfold Conv.runesFrom
    by_cases hi : i < s.size
    · have hw := Lib.decode_width_pos s i hi
      rw [if_pos hi, runesAt_step s i hi]
      simp only []
      rw [runesFrom_eq s f _ _ (by omega)]
      simp [rcells]
    · rw [if_neg hi, runesAt_end s i hi]; simp [rcells]
/-- The runes that the call laid in a row. -/
structure RRow (w : World) (b : Nat) (l : List Nat) : Prop where
  cell : ∀ (j : Nat) (hj : j < l.length), w.cell? ⟨b, j, none⟩ = some (.int .i32 (l[j] : Int))
  lt : b < w.heap.size
theorem made_runes (w : World) (s : ByteArray) (hs : s.size ≤ 1048576) : ∃ c W, (convert 9 120 (.string s)).run Tryd.prog w = .ok (.slice (some ⟨w.heap.size, 0, none⟩) (runes s.data.toList).length c) W ∧ RRow W w.heap.size (runes s.data.toList) ∧ Below w.heap.size w W := by
  have hl := runesFrom_eq s s.size 0 #[] (by omega)
  have hl2 : (Conv.runesFrom s s.size 0 #[]).toList = rcells (runes s.data.toList) := by rw [hl, runesAt_zero]; simp
  have hn : (Conv.runesFrom s s.size 0 #[]).size = (runes s.data.toList).length := by
    have := congrArg List.length hl2
    simpa [rcells] using this
  have hr := run_runes_of_string w 9 120 21 s Tryd.underlying9 Tryd.underlying120 Tryd.underlying21 (by
    have := size_runesFrom s s.size 0 #[]
    simp at this; omega)
  rw [hn] at hr
  refine ⟨_, _, hr, ⟨fun j hj => ?_, by simp⟩, ((Below.refl _ w).drew).alloc (Nat.le_refl _) _⟩
  rw [show w.heap.size = w.drew.heap.size from rfl, World.cell?_alloc_new]
  rw [Array.getElem?_append_left (by rw [hn]; exact hj), ← Array.getElem?_toList, hl2]
  simp [rcells, hj]
theorem RRow.stays {w w' : World} {b : Nat} {l : List Nat} (h : RRow w b l) (hb : Below w.heap.size w w') : RRow w' b l :=
  ⟨fun j hj => (hb.cell (p := ⟨b, j, none⟩) h.lt).trans (h.cell j hj), Nat.lt_of_lt_of_le h.lt hb.size⟩
theorem findR_drop (l : List Nat) (r : Int) (k : Nat) (h : k < l.length) (n : Int) : findR (l.drop k) r n = if (l[k] : Int) = r then n else findR (l.drop (k + 1)) r (n + 1) := by
  rw [List.drop_eq_getElem_cons h]; rfl
set_option maxHeartbeats 4000000 in
set_option maxRecDepth 100000 in
theorem sindex_any (b c : Nat) (l : List Nat) (r : Int) (w : World) (hn : l.length ≤ 1048576) (hR : RRow w b l) :
    Calls Tryd.prog 143 #[.slice (some ⟨b, 0, none⟩) l.length c, .int .i32 r] w fun e w' => e = .returned (.int .i64 (findR l r 0)) ∧ w = w' := by
  obtain ⟨Z, hZ⟩ : ∃ Z, findR l r 0 = Z := ⟨_, rfl⟩
  rw [hZ]
  have hF : Hid (findR (l.drop 0) r (0 : Nat) = Z) := Lib.hid hZ
  clear hZ
  go_enter Tryd.func143, Tryd.ntmps143
  go_wp2_with fail
  go_loop [8] (fun v => ∃ k : Nat, v = .int .i64 k ∧ k ≤ l.length ∧ Hid (findR (l.drop k) r (k : Nat) = Z)) (fun v => l.length - (intOf v).toNat)
  case atStart => exact ⟨0, rfl, Nat.zero_le _, hF⟩
  case round =>
    clear hF
    obtain ⟨k, rfl, hk, HF⟩ := hrel
    by_cases hlt : k < l.length
    · have hz : (k : Int) < (l.length : Int) := by omega
      have hc := hR.cell k hlt
      have hs := findR_drop l r k hlt (k : Int)
      have HF2 := HF.out
      rw [hs] at HF2
      generalize (l[k] : Int) = x at *
      by_cases hx : x = r
      · have HZ : Hid (Z = (k : Int)) := by rw [if_pos hx] at HF2; exact Lib.hid HF2.symm
        have hxr : (r == x) = true := by simp [hx]
        clear HF HF2 hs hx
        go_wp2_with fail
        go_ret
        exact ⟨ret_int HZ.out.symm, rfl⟩
      · have HZ : Hid (findR (l.drop (k + 1)) r ((k + 1 : Nat) : Int) = Z) := by rw [if_neg hx] at HF2; exact Lib.hid (by rw [← HF2]; rfl)
        have hxr : (r == x) = false := by simp; exact fun h => hx h.symm
        clear HF HF2 hs hx
        go_wp2_with fail
        go_round
        case rel => exact ⟨k + 1, by go_num, by omega, HZ⟩
        case measure => simp [intOf]; omega
    · obtain rfl : k = l.length := by omega
      have HZ : Hid (Z = -1) := by have h := HF.out; rw [List.drop_length] at h; exact Lib.hid h.symm
      have hz : ¬ (l.length : Int) < (l.length : Int) := by omega
      clear HF
      go_wp2_with fail
      go_ret
      exact ⟨ret_int HZ.out.symm, rfl⟩
set_option maxHeartbeats 4000000 in
theorem cindex_any (s : ByteArray) (r : Int) (w : World) (hs : s.size ≤ 1048576) :
    Calls Tryd.prog 139 #[.string s, .int .i32 r] w fun e w' => e = .returned (.int .i64 (findR (runes s.data.toList) r 0)) ∧ Below w.heap.size w w' := by
  obtain ⟨c, W, hcv, hR, hb⟩ := made_runes w s hs
  have hl : (runes s.data.toList).length ≤ 1048576 := by
    have := runes_length s.data.toList
    rw [← size_eq] at this; omega
  have k1 := sindex_any w.heap.size c (runes s.data.toList) r W hl hR
  generalize runes s.data.toList = l at *
  generalize findR l r 0 = Z at *
  go_enter Tryd.func139, Tryd.ntmps139
  go_wp2_with fail
  refine k1.mono ?_
  rintro e w2 ⟨rfl, rfl⟩
  go_wp2_with fail
  go_ret
  exact ⟨rfl, hb⟩
end Go.Proofs.YtheemefggkcfbaaDoor
namespace Go.Proofs.YtheemefggkcfbaaDoor
open Go Go.Lib Go.RowKit Go.Shelf
def CodePost (r : Int) (w : World) (e : Ending) (w' : World) : Prop := ∃ x y, e = .returned (.tuple #[.int .u8 x, .int .u8 y, .int .u8 (kindC r)]) ∧ Below w.heap.size w w'
theorem code_post {r x y z : Int} {w w' : World} (h : z = kindC r) (hb : Below w.heap.size w w') : CodePost r w (.returned (.tuple #[.int .u8 x, .int .u8 y, .int .u8 z])) w' := by
  subst h; exact ⟨x, y, rfl, hb⟩
theorem kind1 {r : Int} (h : memI basicL r = true) : 1 = kindC r := by
  rw [basic_eq] at h
  unfold kindC ccBL; rw [h]; rfl
theorem kind2 {r : Int} (h : memI basicL r = false) (h2 : memI ccSL r = true) : 2 = kindC r := by
  rw [basic_eq] at h
  unfold kindC ccBL; rw [h, h2]; rfl
theorem kind3 {r : Int} (h : memI basicL r = false) (h2 : memI ccSL r = false) (h3 : memI ccFL r = true) : 3 = kindC r := by
  rw [basic_eq] at h
  unfold kindC ccBL; rw [h, h2, h3]; rfl
theorem kind4 {r : Int} (h : memI basicL r = false) (h2 : memI ccSL r = false) (h3 : memI ccFL r = false) (h4 : memI ccTL r = true) : 3 = kindC r := by
  rw [basic_eq] at h
  unfold kindC ccBL; rw [h, h2, h3, h4]; rfl
theorem kind0 {r : Int} (h : memI basicL r = false) (h2 : memI ccSL r = false) (h3 : memI ccFL r = false) (h4 : memI ccTL r = false) : 0 = kindC r := by
  rw [basic_eq] at h
  unfold kindC ccBL; rw [h, h2, h3, h4]; rfl
theorem findR_pos {l : List Nat} {r : Int} (h : memI l r = true) : 0 ≤ findR l r 0 := by
  have := findR_mem l r 0 (Int.le_refl _)
  rw [h] at this
  exact of_decide_eq_true this
theorem findR_neg {l : List Nat} {r : Int} (h : memI l r = false) : findR l r 0 < 0 := by
  have := findR_mem l r 0 (Int.le_refl _)
  rw [h] at this
  have := of_decide_eq_false this
  omega
set_option maxHeartbeats 4000000 in
set_option maxRecDepth 100000 in
theorem code_any (r : Int) (w : World) : Calls Tryd.prog 121 #[.int .i32 r] w (CodePost r w) := by
  have cS := fun w => cindex_any ccS r w (by rw [ccS_size]; decide)
  have cF := fun w => cindex_any ccF r w (by rw [ccF_size]; decide)
  have cT := fun w => cindex_any ccT r w (by rw [ccT_size]; decide)
  have gS := findR_ge (runes ccS.data.toList) r 0 (Int.le_refl _)
  have gF := findR_ge (runes ccF.data.toList) r 0 (Int.le_refl _)
  have gT := findR_ge (runes ccT.data.toList) r 0 (Int.le_refl _)
  rw [ccS_len] at gS
  rw [ccF_len] at gF
  rw [ccT_len] at gT
  have HS := Lib.hid (⟨@findR_pos ccSL r, @findR_neg ccSL r⟩ : (memI ccSL r = true → 0 ≤ findR ccSL r 0) ∧ (memI ccSL r = false → findR ccSL r 0 < 0))
  have HF := Lib.hid (⟨@findR_pos ccFL r, @findR_neg ccFL r⟩ : (memI ccFL r = true → 0 ≤ findR ccFL r 0) ∧ (memI ccFL r = false → findR ccFL r 0 < 0))
  have HT := Lib.hid (⟨@findR_pos ccTL r, @findR_neg ccTL r⟩ : (memI ccTL r = true → 0 ≤ findR ccTL r 0) ∧ (memI ccTL r = false → findR ccTL r 0 < 0))
  have K1 := Lib.hid (@kind1 r)
  have K2 := Lib.hid (@kind2 r)
  have K3 := Lib.hid (@kind3 r)
  have K4 := Lib.hid (@kind4 r)
  have K0 := Lib.hid (@kind0 r)
  change ∀ w, Calls Tryd.prog 139 #[.string ccS, .int .i32 r] w fun e w' => e = .returned (.int .i64 (findR ccSL r 0)) ∧ Below w.heap.size w w' at cS
  change ∀ w, Calls Tryd.prog 139 #[.string ccF, .int .i32 r] w fun e w' => e = .returned (.int .i64 (findR ccFL r 0)) ∧ Below w.heap.size w w' at cF
  change ∀ w, Calls Tryd.prog 139 #[.string ccT, .int .i32 r] w fun e w' => e = .returned (.int .i64 (findR ccTL r 0)) ∧ Below w.heap.size w w' at cT
  change -1 ≤ findR ccSL r 0 ∧ findR ccSL r 0 ≤ 0 + (16 : Nat) at gS
  change -1 ≤ findR ccFL r 0 ∧ findR ccFL r 0 ≤ 0 + (32 : Nat) at gF
  change -1 ≤ findR ccTL r 0 ∧ findR ccTL r 0 ≤ 0 + (32 : Nat) at gT
  generalize findR ccSL r 0 = iS at *
  generalize findR ccFL r 0 = iF at *
  generalize findR ccTL r 0 = iT at *
  generalize memI ccSL r = mS at *
  generalize memI ccFL r = mF at *
  generalize memI ccTL r = mT at *
  go_enter Tryd.func121, Tryd.ntmps121
  go_wp2_with fail
  go_loop [5] (fun v => ∃ i : Nat, v = .int .u8 ((i + 32 : Nat) : Int) ∧ i ≤ 96 ∧ Hid (memI (basicL.drop i) r = memI basicL r)) (fun v => (128 - intOf v).toNat)
  case atStart => exact ⟨0, rfl, by omega, Lib.hid (by rw [List.drop_zero])⟩
  case round =>
    obtain ⟨i, rfl, hi, HI⟩ := hrel
    by_cases hlt : i < 96
    · have hz : ((i + 32 : Nat) : Int) ≤ 127 := by omega
      have cB := basic_any (i + 32) (by omega)
      have hst := basicN_at i hlt
      by_cases hx : (basicN (i + 32) : Int) = r
      · have HK : Hid (1 = kindC r) := Lib.hid (K1.out (by rw [← HI.out, hst, memI_cons, decide_eq_true hx]; rfl))
        have hxr : ((basicN (i + 32) : Int) == r) = true := by simp [hx]
        clear hst HI K1 K2 K3 K4 K0 cS cF cT hx
        generalize (basicN (i + 32) : Int) = X at *
        go_wp2_with (go_at_call 138; refine (cB _).mono ?_; rintro e w2 ⟨rfl, rfl⟩)
        go_ret3
        exact code_post HK.out (Below.refl _ _)
      · have HI2 : Hid (memI (basicL.drop (i + 1)) r = memI basicL r) := Lib.hid (by rw [← HI.out, hst, memI_cons, decide_eq_false hx]; rfl)
        have hxr : ((basicN (i + 32) : Int) == r) = false := by simpa using hx
        clear hst HI K1 K2 K3 K4 K0 cS cF cT hx
        generalize (basicN (i + 32) : Int) = X at *
        go_wp2_with (go_at_call 138; refine (cB _).mono ?_; rintro e w2 ⟨rfl, rfl⟩)
        go_round
        case rel => exact ⟨i + 1, by go_num, by omega, HI2⟩
        case measure => simp [intOf]; omega
    · obtain rfl : i = 96 := by omega
      have hB : memI basicL r = false := by rw [← HI.out]; rfl
      have HB := Lib.hid hB
      clear hB HI
      have hz : ¬ ((96 + 32 : Nat) : Int) ≤ 127 := by omega
      cases mS
      · have h1 := HS.out.2 rfl
        cases mF
        · have h2 := HF.out.2 rfl
          cases mT
          · have h3 := HT.out.2 rfl
            have HK := Lib.hid (K0.out HB.out rfl rfl rfl)
            clear HS HF HT K1 K2 K3 K4 K0 HB
            go_wp2_with fail
            refine (cS _).mono ?_
            rintro e w2 ⟨rfl, hb2⟩
            go_wp2_with fail
            refine (cF _).mono ?_
            rintro e w3 ⟨rfl, hb3⟩
            go_wp2_with fail
            refine (cT _).mono ?_
            rintro e w4 ⟨rfl, hb4⟩
            go_wp2_with fail
            go_ret3
            exact code_post HK.out (below_trans (below_trans hb2 hb3) hb4)
          · have h3 := HT.out.1 rfl
            have HK := Lib.hid (K4.out HB.out rfl rfl rfl)
            clear HS HF HT K1 K2 K3 K4 K0 HB
            go_wp2_with fail
            refine (cS _).mono ?_
            rintro e w2 ⟨rfl, hb2⟩
            go_wp2_with fail
            refine (cF _).mono ?_
            rintro e w3 ⟨rfl, hb3⟩
            go_wp2_with fail
            refine (cT _).mono ?_
            rintro e w4 ⟨rfl, hb4⟩
            go_wp2_with fail
            go_ret3
            exact code_post HK.out (below_trans (below_trans hb2 hb3) hb4)
        · have h2 := HF.out.1 rfl
          have HK := Lib.hid (K3.out HB.out rfl rfl)
          clear HS HF HT K1 K2 K3 K4 K0 HB
          go_wp2_with fail
          refine (cS _).mono ?_
          rintro e w2 ⟨rfl, hb2⟩
          go_wp2_with fail
          refine (cF _).mono ?_
          rintro e w3 ⟨rfl, hb3⟩
          go_wp2_with fail
          go_ret3
          exact code_post HK.out (below_trans hb2 hb3)
      · have h1 := HS.out.1 rfl
        have HK := Lib.hid (K2.out HB.out rfl)
        clear HS HF HT K1 K2 K3 K4 K0 HB
        go_wp2_with fail
        refine (cS _).mono ?_
        rintro e w2 ⟨rfl, hb2⟩
        go_wp2_with fail
        go_ret3
        exact code_post HK.out (hb2)
set_option maxHeartbeats 1000000 in
theorem kind_any (r : Int) (w : World) : Calls Tryd.prog 103 #[.int .i32 r] w fun e w' => e = .returned (.int .u8 (kindC r)) ∧ Below w.heap.size w w' := by
  have c : Calls Tryd.prog 121 #[.int .i32 r] w fun e w' => ∃ x y, e = .returned (.tuple #[.int .u8 x, .int .u8 y, .int .u8 (kindC r)]) ∧ Below w.heap.size w w' := code_any r w
  generalize kindC r = K at *
  go_enter Tryd.func103, Tryd.ntmps103
  go_wp2_with fail
  refine c.mono ?_
  rintro e w1 ⟨x, y, rfl, hb⟩
  go_wp2_with fail
  go_ret
  exact ⟨rfl, hb⟩
/-- Is a character carried? -/
def inCC (r : Nat) : Bool := !(kindC (r : Int) == 0)
theorem notCC (r : Nat) : (!inCC r) = (kindC (r : Int) == 0) := by simp [inCC]
set_option maxHeartbeats 1000000 in
theorem noCC_any (r : Nat) (w : World) : Calls Tryd.prog 102 #[.int .i32 r] w fun e w' => e = .returned (.bool (!inCC r)) ∧ Below w.heap.size w w' := by
  have c := kind_any (r : Int) w
  have H := Lib.hid (notCC r)
  generalize kindC (r : Int) = K at *
  generalize (!inCC r) = Z at *
  go_enter Tryd.func102, Tryd.ntmps102
  go_wp2_with fail
  refine c.mono ?_
  rintro e w1 ⟨rfl, hb⟩
  go_wp2_with fail
  go_ret
  exact ⟨ret_bool H.out.symm, hb⟩
end Go.Proofs.YtheemefggkcfbaaDoor
/- More contracts of library functions, laid at this program by the kit's tools. -/
namespace Go.Proofs
open Go.Shelf
def Tryd.lays119_ren : Go.Shelf.Ren := ⟨fun | 119 => 136 | n => n, fun | 21 => 21 | 4 => 4 | n => n, fun | n => n⟩
theorem Tryd.lays119 : Go.Proofs.Lays.n119 Tryd.prog Tryd.lays119_ren := {
  mixed := by kernel_rfl
  f119 := Tryd.func136.trans (congrArg some (by kernel_rfl))
  t4 := Tryd.underlying4
  a4 := Tryd.isAgg4
  z4 := Tryd.sizeOf4
  v4 := Tryd.zeroValue4
  t21 := Tryd.underlying21
  a21 := Tryd.isAgg21
  z21 := Tryd.sizeOf21
  v21 := Tryd.zeroValue21 }
/-- utf8.ValidRune: "ValidRune reports whether r can be legally encoded as UTF-8. Code points that are out of range or a surrogate half are illegal.": IT RETURNS 'Lib.validRune r'; the world is as it was. (LAID: no walk: one application.) -/
theorem Tryd.utf8_ValidRune (r : Int) (w : World) :
    Calls Tryd.prog 136 #[.int .i32 r] w fun e w' => e = .returned (.bool (Lib.validRune r)) ∧ w' = w := Any.utf8_ValidRune Tryd.lays119 r w
def Tryd.lays137_ren : Go.Shelf.Ren := ⟨fun | 137 => 135 | 217 => 123 | 266 => 141 | n => n, fun | 9 => 9 | 5 => 5 | 3 => 3 | n => n, fun | n => n⟩
theorem Tryd.lays137 : Go.Proofs.Lays.n137 Tryd.prog Tryd.lays137_ren := {
  mixed := by kernel_rfl
  f137 := Tryd.func135.trans (congrArg some (by kernel_rfl))
  f217 := Tryd.func123.trans (congrArg some (by kernel_rfl))
  f266 := Tryd.func141.trans (congrArg some (by kernel_rfl))
  t3 := Tryd.underlying3
  a3 := Tryd.isAgg3
  z3 := Tryd.sizeOf3
  v3 := Tryd.zeroValue3
  t5 := Tryd.underlying5
  a5 := Tryd.isAgg5
  z5 := Tryd.sizeOf5
  v5 := Tryd.zeroValue5
  t9 := Tryd.underlying9
  a9 := Tryd.isAgg9
  z9 := Tryd.sizeOf9
  v9 := Tryd.zeroValue9 }
open Go.RowKit in
/-- strings.IndexByte: "IndexByte returns the index of the first instance of c in s, or -1 if c is not present in s.": IT RETURNS 'Lib.indexByte s c'; the world is as it was. (LAID: no walk: one application.) -/
theorem Tryd.strings_IndexByte (s : ByteArray) (c : Int) (w : World) :
    Calls Tryd.prog 135 #[.string s, .int .u8 c] w fun e w' => e = .returned (.int .i64 (Lib.indexByte s.data.toList c.toNat.toUInt8)) ∧ w' = w := Any.strings_IndexByte Tryd.lays137 s c w
def Tryd.laysGw17_ren : Go.Shelf.Ren := ⟨fun | 17 => 101 | 15 => 120 | 20 => 137 | n => n, fun | 9 => 9 | 23 => 83 | 4 => 4 | 3 => 3 | 0 => 0 | 21 => 21 | n => n, fun | n => n⟩
theorem Tryd.laysGw17 : Go.Proofs.LaysGw.n17 Tryd.prog Tryd.laysGw17_ren := {
  mixed := by kernel_rfl
  f15 := Tryd.func120.trans (congrArg some (by kernel_rfl))
  f17 := Tryd.func101.trans (congrArg some (by kernel_rfl))
  f20 := Tryd.func137.trans (congrArg some (by kernel_rfl))
  t0 := Tryd.underlying0
  a0 := Tryd.isAgg0
  z0 := Tryd.sizeOf0
  v0 := Tryd.zeroValue0
  i0 := by kernel_rfl
  t3 := Tryd.underlying3
  a3 := Tryd.isAgg3
  z3 := Tryd.sizeOf3
  v3 := Tryd.zeroValue3
  i3 := by kernel_rfl
  t4 := Tryd.underlying4
  a4 := Tryd.isAgg4
  z4 := Tryd.sizeOf4
  v4 := Tryd.zeroValue4
  i4 := by kernel_rfl
  t9 := Tryd.underlying9
  a9 := Tryd.isAgg9
  z9 := Tryd.sizeOf9
  v9 := Tryd.zeroValue9
  i9 := by kernel_rfl
  t21 := Tryd.underlying21
  a21 := Tryd.isAgg21
  z21 := Tryd.sizeOf21
  v21 := Tryd.zeroValue21
  i21 := by kernel_rfl
  t23 := Tryd.underlying83
  a23 := Tryd.isAgg83
  z23 := Tryd.sizeOf83
  v23 := Tryd.zeroValue83
  i23 := by kernel_rfl }
def Tryd.lays157_ren : Go.Shelf.Ren := ⟨fun | 157 => 54 | 229 => 56 | 199 => 88 | 261 => 109 | 311 => 130 | 312 => 131 | n => n, fun | 9 => 9 | 31 => 42 | 3 => 3 | 5 => 5 | 4 => 4 | 119 => 107 | 0 => 0 | 40 => 83 | 152 => 109 | 21 => 21 | 154 => 111 | 51 => 133 | 141 => 135 | 196 => 158 | 193 => 155 | 198 => 160 | 49 => 47 | 194 => 156 | 201 => 163 | 226 => 169 | 46 => 128 | 227 => 170 | n => n, fun | 0 => 0 | 6 => 3 | n => n⟩
theorem Tryd.lays157 : Go.Proofs.Lays.n157 Tryd.prog Tryd.lays157_ren := {
  mixed := by kernel_rfl
  f157 := Tryd.func54.trans (congrArg some (by kernel_rfl))
  f199 := Tryd.func88.trans (congrArg some (by kernel_rfl))
  f229 := Tryd.func56.trans (congrArg some (by kernel_rfl))
  f261 := Tryd.func109.trans (congrArg some (by kernel_rfl))
  f311 := Tryd.func130.trans (congrArg some (by kernel_rfl))
  f312 := Tryd.func131.trans (congrArg some (by kernel_rfl))
  t0 := Tryd.underlying0
  a0 := Tryd.isAgg0
  z0 := Tryd.sizeOf0
  v0 := Tryd.zeroValue0
  t3 := Tryd.underlying3
  a3 := Tryd.isAgg3
  z3 := Tryd.sizeOf3
  v3 := Tryd.zeroValue3
  t4 := Tryd.underlying4
  a4 := Tryd.isAgg4
  z4 := Tryd.sizeOf4
  v4 := Tryd.zeroValue4
  t5 := Tryd.underlying5
  a5 := Tryd.isAgg5
  z5 := Tryd.sizeOf5
  v5 := Tryd.zeroValue5
  t9 := Tryd.underlying9
  a9 := Tryd.isAgg9
  z9 := Tryd.sizeOf9
  v9 := Tryd.zeroValue9
  t21 := Tryd.underlying21
  a21 := Tryd.isAgg21
  z21 := Tryd.sizeOf21
  v21 := Tryd.zeroValue21
  t31 := Tryd.underlying42
  a31 := Tryd.isAgg42
  z31 := Tryd.sizeOf42
  v31 := Tryd.zeroValue42
  t40 := Tryd.underlying83
  a40 := Tryd.isAgg83
  z40 := Tryd.sizeOf83
  v40 := Tryd.zeroValue83
  t46 := Tryd.underlying128
  a46 := Tryd.isAgg128
  z46 := Tryd.sizeOf128
  v46 := Tryd.zeroValue128
  t49 := Tryd.underlying47
  a49 := Tryd.isAgg47
  z49 := Tryd.sizeOf47
  v49 := Tryd.zeroValue47
  t51 := Tryd.underlying133
  a51 := Tryd.isAgg133
  z51 := Tryd.sizeOf133
  v51 := Tryd.zeroValue133
  t119 := Tryd.underlying107
  a119 := Tryd.isAgg107
  z119 := Tryd.sizeOf107
  t141 := Tryd.underlying135
  a141 := Tryd.isAgg135
  z141 := Tryd.sizeOf135
  v141 := Tryd.zeroValue135
  t152 := Tryd.underlying109
  a152 := Tryd.isAgg109
  z152 := Tryd.sizeOf109
  v152 := Tryd.zeroValue109
  t154 := Tryd.underlying111
  a154 := Tryd.isAgg111
  z154 := Tryd.sizeOf111
  v154 := Tryd.zeroValue111
  t193 := Tryd.underlying155
  a193 := Tryd.isAgg155
  z193 := Tryd.sizeOf155
  v193 := Tryd.zeroValue155
  t194 := Tryd.underlying156
  a194 := Tryd.isAgg156
  z194 := Tryd.sizeOf156
  v194 := Tryd.zeroValue156
  t196 := Tryd.underlying158
  a196 := Tryd.isAgg158
  z196 := Tryd.sizeOf158
  v196 := Tryd.zeroValue158
  t198 := Tryd.underlying160
  a198 := Tryd.isAgg160
  z198 := Tryd.sizeOf160
  v198 := Tryd.zeroValue160
  t201 := Tryd.underlying163
  a201 := Tryd.isAgg163
  z201 := Tryd.sizeOf163
  v201 := Tryd.zeroValue163
  t226 := Tryd.underlying169
  a226 := Tryd.isAgg169
  z226 := Tryd.sizeOf169
  v226 := Tryd.zeroValue169
  t227 := Tryd.underlying170
  a227 := Tryd.isAgg170
  z227 := Tryd.sizeOf170
  v227 := Tryd.zeroValue170
  g0 := by kernel_rfl
  g6 := by kernel_rfl }
def Tryd.lays155_ren : Go.Shelf.Ren := ⟨fun | 155 => 55 | 154 => 89 | 138 => 110 | 165 => 85 | 143 => 76 | 166 => 86 | 197 => 111 | 169 => 87 | 195 => 66 | 218 => 132 | 240 => 107 | 241 => 108 | 219 => 105 | 260 => 133 | 276 => 128 | 277 => 129 | 217 => 123 | 225 => 124 | 224 => 125 | 267 => 126 | 266 => 141 | 314 => 142 | n => n, fun | 9 => 9 | 3 => 3 | 4 => 4 | 72 => 100 | 0 => 0 | 76 => 104 | 105 => 136 | 21 => 21 | 5 => 5 | 70 => 97 | 20 => 20 | 37 => 98 | 75 => 103 | 127 => 132 | 164 => 152 | 46 => 128 | 119 => 107 | 139 => 127 | 138 => 126 | 146 => 167 | 51 => 133 | 80 => 106 | n => n, fun | 1 => 4 | 3 => 1 | 4 => 2 | n => n⟩
theorem Tryd.lays155 : Go.Proofs.Lays.n155 Tryd.prog Tryd.lays155_ren := {
  mixed := by kernel_rfl
  f138 := Tryd.func110.trans (congrArg some (by kernel_rfl))
  f143 := Tryd.func76.trans (congrArg some (by kernel_rfl))
  f154 := Tryd.func89.trans (congrArg some (by kernel_rfl))
  f155 := Tryd.func55.trans (congrArg some (by kernel_rfl))
  f165 := Tryd.func85.trans (congrArg some (by kernel_rfl))
  f166 := Tryd.func86.trans (congrArg some (by kernel_rfl))
  f169 := Tryd.func87.trans (congrArg some (by kernel_rfl))
  f195 := Tryd.func66.trans (congrArg some (by kernel_rfl))
  f197 := Tryd.func111.trans (congrArg some (by kernel_rfl))
  f217 := Tryd.func123.trans (congrArg some (by kernel_rfl))
  f218 := Tryd.func132.trans (congrArg some (by kernel_rfl))
  f219 := Tryd.func105.trans (congrArg some (by kernel_rfl))
  f224 := Tryd.func125.trans (congrArg some (by kernel_rfl))
  f225 := Tryd.func124.trans (congrArg some (by kernel_rfl))
  f240 := Tryd.func107.trans (congrArg some (by kernel_rfl))
  f241 := Tryd.func108.trans (congrArg some (by kernel_rfl))
  f260 := Tryd.func133.trans (congrArg some (by kernel_rfl))
  f266 := Tryd.func141.trans (congrArg some (by kernel_rfl))
  f267 := Tryd.func126.trans (congrArg some (by kernel_rfl))
  f276 := Tryd.func128.trans (congrArg some (by kernel_rfl))
  f277 := Tryd.func129.trans (congrArg some (by kernel_rfl))
  f314 := Tryd.func142.trans (congrArg some (by kernel_rfl))
  t0 := Tryd.underlying0
  a0 := Tryd.isAgg0
  z0 := Tryd.sizeOf0
  v0 := Tryd.zeroValue0
  t3 := Tryd.underlying3
  a3 := Tryd.isAgg3
  z3 := Tryd.sizeOf3
  v3 := Tryd.zeroValue3
  t4 := Tryd.underlying4
  a4 := Tryd.isAgg4
  z4 := Tryd.sizeOf4
  v4 := Tryd.zeroValue4
  t5 := Tryd.underlying5
  a5 := Tryd.isAgg5
  z5 := Tryd.sizeOf5
  v5 := Tryd.zeroValue5
  t9 := Tryd.underlying9
  a9 := Tryd.isAgg9
  z9 := Tryd.sizeOf9
  v9 := Tryd.zeroValue9
  t20 := Tryd.underlying20
  a20 := Tryd.isAgg20
  z20 := Tryd.sizeOf20
  v20 := Tryd.zeroValue20
  t21 := Tryd.underlying21
  a21 := Tryd.isAgg21
  z21 := Tryd.sizeOf21
  v21 := Tryd.zeroValue21
  t37 := Tryd.underlying98
  a37 := Tryd.isAgg98
  z37 := Tryd.sizeOf98
  v37 := Tryd.zeroValue98
  t46 := Tryd.underlying128
  a46 := Tryd.isAgg128
  z46 := Tryd.sizeOf128
  v46 := Tryd.zeroValue128
  t51 := Tryd.underlying133
  a51 := Tryd.isAgg133
  z51 := Tryd.sizeOf133
  v51 := Tryd.zeroValue133
  t70 := Tryd.underlying97
  a70 := Tryd.isAgg97
  z70 := Tryd.sizeOf97
  v70 := Tryd.zeroValue97
  t72 := Tryd.underlying100
  a72 := Tryd.isAgg100
  z72 := Tryd.sizeOf100
  v72 := Tryd.zeroValue100
  t75 := Tryd.underlying103
  a75 := Tryd.isAgg103
  z75 := Tryd.sizeOf103
  v75 := Tryd.zeroValue103
  t76 := Tryd.underlying104
  a76 := Tryd.isAgg104
  z76 := Tryd.sizeOf104
  v76 := Tryd.zeroValue104
  t105 := Tryd.underlying136
  a105 := Tryd.isAgg136
  z105 := Tryd.sizeOf136
  v105 := Tryd.zeroValue136
  t119 := Tryd.underlying107
  a119 := Tryd.isAgg107
  z119 := Tryd.sizeOf107
  t127 := Tryd.underlying132
  a127 := Tryd.isAgg132
  z127 := Tryd.sizeOf132
  v127 := Tryd.zeroValue132
  t138 := Tryd.underlying126
  a138 := Tryd.isAgg126
  z138 := Tryd.sizeOf126
  v138 := Tryd.zeroValue126
  t139 := Tryd.underlying127
  a139 := Tryd.isAgg127
  z139 := Tryd.sizeOf127
  v139 := Tryd.zeroValue127
  t146 := Tryd.underlying167
  a146 := Tryd.isAgg167
  z146 := Tryd.sizeOf167
  v146 := Tryd.zeroValue167
  t164 := Tryd.underlying152
  a164 := Tryd.isAgg152
  z164 := Tryd.sizeOf152
  v164 := Tryd.zeroValue152
  g1 := by kernel_rfl
  g3 := by kernel_rfl
  g4 := by kernel_rfl }
theorem Tryd.Builder_Extra_155 : Builder.Extra Tryd.prog Tryd.lays155_ren := {
  sizeBuilder := by kernel_rfl
  liesBuilder := by kernel_rfl
  t5 := Tryd.underlying5
  a5 := Tryd.isAgg5
  z5 := Tryd.sizeOf5
  v5 := Tryd.zeroValue5
  infoByte := by kernel_rfl
  cellsByte := by kernel_rfl
  sizeByte := by kernel_rfl
  neB5 := by decide }
open Go.RowKit Go.Lib in
/-- strings.ReplaceAll: "ReplaceAll returns a copy of the string s with all non-overlapping instances of old replaced by new.": AT AN old THAT IS NOT EMPTY: 'Lib.replaceAll s old new'. (LAID: no walk: one application.) -/
theorem Tryd.strings_ReplaceAll (s old new : ByteArray) (m : Int) (w : World) (hs : s.size < 4294967281) (hm : w.cell? ⟨4, 0, none⟩ = some (.int .i64 m)) (h1 : 1 ≤ old.size) (hlen : s.size + Lib.countB s old * new.size ≤ 140737488355328) :
    Calls Tryd.prog 55 #[.string s, .string old, .string new] w fun e w' =>
      e = .returned (.string ⟨(Lib.replaceAll s.data.toList old.data.toList new.data.toList).toArray⟩) ∧ Below w.heap.size w w' := Any.strings_ReplaceAll Tryd.lays155 Tryd.Builder_Extra_155 s old new m w hs hm h1 hlen
def Tryd.lays152_ren : Go.Shelf.Ren := ⟨fun | 152 => 118 | 137 => 135 | 119 => 136 | 224 => 125 | 225 => 124 | 217 => 123 | 266 => 141 | n => n, fun | 9 => 9 | 21 => 21 | 3 => 3 | 4 => 4 | 5 => 5 | 0 => 0 | 46 => 128 | n => n, fun | n => n⟩
theorem Tryd.lays152 : Go.Proofs.Lays.n152 Tryd.prog Tryd.lays152_ren := {
  mixed := by kernel_rfl
  f119 := Tryd.func136.trans (congrArg some (by kernel_rfl))
  f137 := Tryd.func135.trans (congrArg some (by kernel_rfl))
  f152 := Tryd.func118.trans (congrArg some (by kernel_rfl))
  f217 := Tryd.func123.trans (congrArg some (by kernel_rfl))
  f224 := Tryd.func125.trans (congrArg some (by kernel_rfl))
  f225 := Tryd.func124.trans (congrArg some (by kernel_rfl))
  f266 := Tryd.func141.trans (congrArg some (by kernel_rfl))
  t0 := Tryd.underlying0
  a0 := Tryd.isAgg0
  z0 := Tryd.sizeOf0
  v0 := Tryd.zeroValue0
  t3 := Tryd.underlying3
  a3 := Tryd.isAgg3
  z3 := Tryd.sizeOf3
  v3 := Tryd.zeroValue3
  t4 := Tryd.underlying4
  a4 := Tryd.isAgg4
  z4 := Tryd.sizeOf4
  v4 := Tryd.zeroValue4
  t5 := Tryd.underlying5
  a5 := Tryd.isAgg5
  z5 := Tryd.sizeOf5
  v5 := Tryd.zeroValue5
  t9 := Tryd.underlying9
  a9 := Tryd.isAgg9
  z9 := Tryd.sizeOf9
  v9 := Tryd.zeroValue9
  t21 := Tryd.underlying21
  a21 := Tryd.isAgg21
  z21 := Tryd.sizeOf21
  v21 := Tryd.zeroValue21
  t46 := Tryd.underlying128
  a46 := Tryd.isAgg128
  z46 := Tryd.sizeOf128
  v46 := Tryd.zeroValue128 }
open Go.RowKit Go.Lib in
theorem Tryd.strings_IndexRune_ascii (s : ByteArray) (r : Int) (w : World) (h0 : 0 ≤ r) (h1 : r < 128) :
    Calls Tryd.prog 118 #[.string s, .int .i32 r] w fun e w' => e = .returned (.int .i64 (Lib.indexByte s.data.toList r.toNat.toUInt8)) ∧ w' = w := Any.strings_IndexRune_ascii Tryd.lays152 s r w h0 h1
def Tryd.lays226_ren : Go.Shelf.Ren := ⟨fun | 226 => 119 | n => n, fun | 3 => 3 | 4 => 4 | n => n, fun | n => n⟩
theorem Tryd.lays226 : Go.Proofs.Lays.n226 Tryd.prog Tryd.lays226_ren := {
  mixed := by kernel_rfl
  f226 := Tryd.func119.trans (congrArg some (by kernel_rfl))
  t3 := Tryd.underlying3
  a3 := Tryd.isAgg3
  z3 := Tryd.sizeOf3
  v3 := Tryd.zeroValue3
  t4 := Tryd.underlying4
  a4 := Tryd.isAgg4
  z4 := Tryd.sizeOf4
  v4 := Tryd.zeroValue4 }
open Go.RowKit Go.Lib in
theorem Tryd.strings_shouldUseASCIISet (n : Int) (w : World) :
    Calls Tryd.prog 119 #[.int .i64 n] w fun e w' => e = .returned (.bool (decide (8 < n))) ∧ w' = w := Any.strings_shouldUseASCIISet Tryd.lays226 n w
def Tryd.lays153_ren : Go.Shelf.Ren := ⟨fun | 153 => 100 | 152 => 118 | 226 => 119 | 227 => 93 | 228 => 114 | 137 => 135 | 119 => 136 | 224 => 125 | 225 => 124 | 217 => 123 | 266 => 141 | n => n, fun | 9 => 9 | 3 => 3 | 4 => 4 | 5 => 5 | 21 => 21 | 117 => 116 | 116 => 115 | 0 => 0 | 46 => 128 | 124 => 119 | n => n, fun | n => n⟩
theorem Tryd.lays153 : Go.Proofs.Lays.n153 Tryd.prog Tryd.lays153_ren := {
  mixed := by kernel_rfl
  f119 := Tryd.func136.trans (congrArg some (by kernel_rfl))
  f137 := Tryd.func135.trans (congrArg some (by kernel_rfl))
  f152 := Tryd.func118.trans (congrArg some (by kernel_rfl))
  f153 := Tryd.func100.trans (congrArg some (by kernel_rfl))
  f217 := Tryd.func123.trans (congrArg some (by kernel_rfl))
  f224 := Tryd.func125.trans (congrArg some (by kernel_rfl))
  f225 := Tryd.func124.trans (congrArg some (by kernel_rfl))
  f226 := Tryd.func119.trans (congrArg some (by kernel_rfl))
  f227 := Tryd.func93.trans (congrArg some (by kernel_rfl))
  f228 := Tryd.func114.trans (congrArg some (by kernel_rfl))
  f266 := Tryd.func141.trans (congrArg some (by kernel_rfl))
  t0 := Tryd.underlying0
  a0 := Tryd.isAgg0
  z0 := Tryd.sizeOf0
  v0 := Tryd.zeroValue0
  t3 := Tryd.underlying3
  a3 := Tryd.isAgg3
  z3 := Tryd.sizeOf3
  v3 := Tryd.zeroValue3
  t4 := Tryd.underlying4
  a4 := Tryd.isAgg4
  z4 := Tryd.sizeOf4
  v4 := Tryd.zeroValue4
  t5 := Tryd.underlying5
  a5 := Tryd.isAgg5
  z5 := Tryd.sizeOf5
  v5 := Tryd.zeroValue5
  t9 := Tryd.underlying9
  a9 := Tryd.isAgg9
  z9 := Tryd.sizeOf9
  v9 := Tryd.zeroValue9
  t21 := Tryd.underlying21
  a21 := Tryd.isAgg21
  z21 := Tryd.sizeOf21
  v21 := Tryd.zeroValue21
  t46 := Tryd.underlying128
  a46 := Tryd.isAgg128
  z46 := Tryd.sizeOf128
  v46 := Tryd.zeroValue128
  t116 := Tryd.underlying115
  a116 := Tryd.isAgg115
  z116 := Tryd.sizeOf115
  t117 := Tryd.underlying116
  a117 := Tryd.isAgg116
  z117 := Tryd.sizeOf116
  v117 := Tryd.zeroValue116
  t124 := Tryd.underlying119
  a124 := Tryd.isAgg119
  z124 := Tryd.sizeOf119
  v124 := Tryd.zeroValue119 }
def Tryd.lays227_ren : Go.Shelf.Ren := ⟨fun | 227 => 93 | n => n, fun | 9 => 9 | 116 => 115 | 4 => 4 | 0 => 0 | 3 => 3 | 5 => 5 | n => n, fun | n => n⟩
theorem Tryd.lays227 : Go.Proofs.Lays.n227 Tryd.prog Tryd.lays227_ren := {
  mixed := by kernel_rfl
  f227 := Tryd.func93.trans (congrArg some (by kernel_rfl))
  t0 := Tryd.underlying0
  a0 := Tryd.isAgg0
  z0 := Tryd.sizeOf0
  v0 := Tryd.zeroValue0
  t3 := Tryd.underlying3
  a3 := Tryd.isAgg3
  z3 := Tryd.sizeOf3
  v3 := Tryd.zeroValue3
  t4 := Tryd.underlying4
  a4 := Tryd.isAgg4
  z4 := Tryd.sizeOf4
  v4 := Tryd.zeroValue4
  t5 := Tryd.underlying5
  a5 := Tryd.isAgg5
  z5 := Tryd.sizeOf5
  v5 := Tryd.zeroValue5
  t9 := Tryd.underlying9
  a9 := Tryd.isAgg9
  z9 := Tryd.sizeOf9
  v9 := Tryd.zeroValue9
  t116 := Tryd.underlying115
  a116 := Tryd.isAgg115
  z116 := Tryd.sizeOf115 }
open Go.RowKit Go.Lib in
/-- **strings.Fields AT EVERY STRING, VALID UTF-8 OR NOT.** (LAID: no walk: one application.) -/
theorem Tryd.strings_Fields_any (s : ByteArray) (w : World) (hs : s.size < 4294967281) (htab : Lib.TabIs Tryd.prog w "strings.asciiSpace" .u8 Lib.asciiSpaceTab) (hW : Lib.WhiteTab 3 w) :
    Calls Tryd.prog 54 #[.string s] w fun e w' => ∃ A, e = .returned (.slice (some ⟨A, 0, none⟩) (Lib.fieldsD s.data.toList).length (Lib.fieldsD s.data.toList).length) ∧ w.heap.size ≤ A ∧
      w'.ownsRow w.heap.size 9 1 (.slice (some ⟨A, 0, none⟩) (Lib.fieldsD s.data.toList).length (Lib.fieldsD s.data.toList).length) (Lib.fieldsD s.data.toList).length ((Lib.fieldsD s.data.toList).map fun x => Value.string ⟨x.toArray⟩) ∧ Below w.heap.size w w' := Any.strings_Fields_any Tryd.lays157 (by kernel_rfl) (by kernel_rfl) (by kernel_rfl) s w hs htab hW
open Go.RowKit Go.Lib in
theorem Tryd.strings_ContainsFunc_grows (g : Nat) (lb : Array Value) (eg : ∀ args w, (callFunc g args).run Tryd.prog w = .ok (.enter g args) w) (p : Nat → Bool) (s : ByteArray) (w : World) (hp : PredGrows Tryd.prog g lb p w) :
    Calls Tryd.prog 101 #[.string s, .func (.func g) #[] lb] w fun e w' => e = .returned (.bool (decide (0 ≤ Lib.idxFunc p true s))) ∧ Below w.heap.size w w' := Any.strings_ContainsFunc_grows Tryd.laysGw17 g lb eg p s w hp
def Tryd.laysSlH10_f68_ren : Go.Shelf.Ren := ⟨fun | 10 => 68 | 6 => 97 | n => n, fun | 22 => 42 | 23 => 9 | 25 => 31 | 3 => 3 | 4 => 4 | 0 => 0 | n => n, fun | n => n⟩
theorem Tryd.laysSlH10_f68 : Go.Proofs.SlLaysH.n10 Tryd.prog Tryd.laysSlH10_f68_ren := {
  mixed := by kernel_rfl
  f6 := ⟨Tryd.f97.name, by decide, Tryd.func97.trans (congrArg some (by kernel_rfl))⟩
  f10 := ⟨Tryd.f68.name, by decide, Tryd.func68.trans (congrArg some (by kernel_rfl))⟩
  t0 := Tryd.underlying0
  a0 := Tryd.isAgg0
  z0 := Tryd.sizeOf0
  v0 := Tryd.zeroValue0
  t3 := Tryd.underlying3
  a3 := Tryd.isAgg3
  z3 := Tryd.sizeOf3
  v3 := Tryd.zeroValue3
  t4 := Tryd.underlying4
  a4 := Tryd.isAgg4
  z4 := Tryd.sizeOf4
  v4 := Tryd.zeroValue4
  t22 := Tryd.underlying42
  a22 := Tryd.isAgg42
  z22 := Tryd.sizeOf42
  v22 := Tryd.zeroValue42
  a23 := Tryd.isAgg9
  z23 := Tryd.sizeOf9
  t25 := Tryd.underlying31
  a25 := Tryd.isAgg31
  z25 := Tryd.sizeOf31
  v25 := Tryd.zeroValue31 }
open Go.RowKit Go.Lib Go.Sort in
theorem Tryd.slices_DeleteFunc {α : Type} [Inhabited α] (enc : α → Value) (hO : OneCell enc) (p : α → Bool) (g : Nat) (lb : Array Value) (eg : ∀ args w, (callFunc g args).run Tryd.prog w = .ok (.enter g args) w) (zr : α) (v23 : ∀ w, (zeroValue 9).run Tryd.prog w = .ok (enc zr) w) (blk off cap : Nat) (d : Array α) (w : World) (hp : PredAt Tryd.prog g lb enc p w) (hpo : PredOver Tryd.prog g lb enc p blk off d.size w) (hH : Holds enc w blk off d) (hsz : d.size ≤ 9223372036854775807) (hcap : d.size ≤ cap) :
    Calls Tryd.prog 68 #[.slice (some ⟨blk, off, none⟩) d.size cap, .func (.func g) #[] lb] w fun e w' => e = .returned (.slice (some ⟨blk, off, none⟩) (d.toList.filter fun x => !p x).length cap) ∧ ∃ q, w' = putRow enc (Sort.ahead w q) blk off ((d.toList.filter fun x => !p x) ++ List.replicate (d.size - (d.toList.filter fun x => !p x).length) zr).toArray := AnyE.slices_DeleteFunc Tryd.laysSlH10_f68 enc hO p g lb eg zr v23 blk off cap d w hp hpo hH hsz hcap
end Go.Proofs
namespace Go.Proofs.YtheemefggkcfbaaDoor
open Go Go.Lib Go.RowKit Go.Shelf
theorem idxFunc_any (p : Nat → Bool) (s : ByteArray) : ∀ (f pos : Nat), s.size ≤ pos + f → decide (0 ≤ Lib.idxFuncFrom p true s f pos) = (runesAt s pos).any p
  | 0, pos, h => by rw [runesAt_end s pos (by omega)]; rfl
  | f + 1, pos, h => by
    unfold Lib.idxFuncFrom
    by_cases hp : pos < s.size
    · have hw := Lib.decode_width_pos s pos hp
      rw [if_pos hp, runesAt_step s pos hp, List.any_cons]
      cases hb : p (Utf8.decode s pos).1
      · rw [if_neg (by simp), Bool.false_or]; exact idxFunc_any p s f _ (by omega)
      · rw [if_pos rfl, Bool.true_or]; simp
    · rw [if_neg hp, runesAt_end s pos hp]; rfl
/-- Are all characters carried? -/
def carC (l : List UInt8) : Bool := (runes l).all inCC
theorem enters102 : ∀ args w, (callFunc 102 args).run Tryd.prog w = .ok (.enter 102 args) w := enters_of Tryd.func102 (by kernel_rfl) rfl
set_option maxHeartbeats 1000000 in
theorem carries_any (s : ByteArray) (w : World) : Calls Tryd.prog 73 #[.string s] w fun e w' => e = .returned (.bool (carC s.data.toList)) ∧ Below w.heap.size w w' := by
  have c := Tryd.strings_ContainsFunc_grows 102 #[] enters102 (fun x => !inCC x) s w (fun W x _ _ => noCC_any x W)
  have e : decide (0 ≤ Lib.idxFunc (fun x => !inCC x) true s) = !carC s.data.toList := by
    have h := idxFunc_any (fun x => !inCC x) s s.size 0 (by omega)
    unfold Lib.idxFunc carC
    rw [h, runesAt_zero, List.not_all_eq_any_not]
  rw [e] at c
  cases hc : carC s.data.toList
  all_goals
    rw [hc] at c
    clear hc e
    go_enter Tryd.func73, Tryd.ntmps73
    go_wp2_with fail
    refine c.mono ?_
    rintro e w1 ⟨rfl, hb⟩
    go_wp2_with fail
    go_ret
    exact ⟨rfl, hb⟩
/-! ### the reference's -/
set_option maxHeartbeats 4000000 in
set_option maxRecDepth 100000 in
theorem rlist_any (s : ByteArray) (w : World) (hs : s.size ≤ 1099511627776) :
    Calls Tryd.prog 144 #[.string s] w (Made w.heap.size 21 1 (runes s.data.toList).length (rcells (runes s.data.toList)) w) := by
  obtain ⟨i0, hi, hz0, hz1, hz2⟩ := info_parts info21
  go_enter Tryd.func144, Tryd.ntmps144
  go_wp2
  go_loopg [3] s.size (fun gf v wx => ∃ (pos : Nat) (d : List Nat), wx.heap[w.heap.size]? = some (.stringIter s pos) ∧ wx.ownsRow w.heap.size 21 1 v d.length (rcells d) ∧ Below w.heap.size w wx ∧ d ++ runesAt s pos = runes s.data.toList ∧ s.size ≤ pos + gf ∧ d.length ≤ pos ∧ pos ≤ s.size + 4)
  case atStart => exact ⟨0, [], World.iter_heap w s 0, World.ownsRow_nil _ _ _ _, below_iter _ _ _, rfl, by omega, by simp, by omega⟩
  case round =>
    obtain ⟨pos, d, hit, hown, hbw, hc, hg, hdp, hps⟩ := hrel
    by_cases hp : pos < s.size
    · obtain ⟨g', rfl⟩ : ∃ g', gk = g' + 1 := ⟨gk - 1, by omega⟩
      have hnx : ∀ ty, (Instr.next (.pointer (some ⟨w.heap.size, 0, none⟩)) true ty).run Tryd.prog wr = _ := fun ty => Lib.run_next_any_at wr w.heap.size s pos ty hit hp
      have hwd := Lib.decode_width_pos s pos hp
      have hwn : (Utf8.decode s pos).2 ≤ 4 := by
        rw [decode_N]; exact (decodeN_conts _ _ _ _ _).2.2.2
      rw [runesAt_step s pos hp] at hc
      have hit2 := Lib.iterAt_heap wr w.heap.size s pos (pos + (Utf8.decode s pos).2) hit
      have hbw2 := Lib.below_iterAt hbw (k := w.heap.size) (Nat.le_refl _) s (pos + (Utf8.decode s pos).2)
      have hown2 := own_iterAt hown hit (pos + (Utf8.decode s pos).2)
      have hne := own_ne_iter hown hit
      clear hown hbw hit
      generalize (Utf8.decode s pos).2 = K at *
      generalize (Utf8.decode s pos).1 = R at *
      generalize wr.iterAt w.heap.size s (pos + K) = W at *
      have hsz := hbw2.size
      go_wp2_with (at_builtin; refine wpList_append_own _ rfl _ _ 120 rfl w.heap.size 21 i0 _ 1 4 Tryd.underlying120 hi hz0 hz1 hz2 rfl (by decide) _ _ _ rfl (hown2.alloc _) ⟨W.heap.size, 0, none⟩ 1 1 [.int .i32 (R : Int)] rfl rfl ?c1 ?c2 ?c3 ?c4 ?c5 ?_)
      case c1 => exact cells_new _ _ _ rfl
      case c2 => simp [Value.oneCell']
      case c3 => unfold maxLen; omega
      case c4 => omega
      case c5 => simp; omega
      · intro v' w1 hown' hgrow _
        have R1 : w1.ownsRow w.heap.size 21 1 v' (d ++ [R]).length (rcells (d ++ [R])) := by
          rw [List.length_append]; unfold rcells at *; rw [List.map_append]; exact hown'
        have R2 := app_step (hown2.alloc _) (hbw2.alloc hsz _) (by simp; omega) hgrow
        have R3 : w1.heap[w.heap.size]? = some (.stringIter s (pos + K)) := (hgrow.block _ (by have := heap_lt hit2; simp; omega) hne).trans ((Below.heap_alloc _ _ _ (heap_lt hit2)).trans hit2)
        clear hown' hgrow hown2 hbw2
        go_wp2_with fail
        go_roundg g'
        case rel => exact ⟨pos + K, d ++ [R], R3, R1, R2, by rw [← hc]; simp, by omega, by simp; omega, by omega⟩
        case measure => omega
    · have hnx : ∀ ty, (Instr.next (.pointer (some ⟨w.heap.size, 0, none⟩)) true ty).run Tryd.prog wr = _ := fun ty => Lib.run_next_end_at wr w.heap.size s pos ty hit hp
      rw [runesAt_end s pos hp, List.append_nil] at hc
      subst hc
      go_wp2
      go_ret
      exact ⟨_, rfl, hown, hbw⟩
theorem own_runes {w : World} {B n : Nat} {a : Option Addr} {m c : Nat} {L : List Nat} (h : w.ownsRow B 21 1 (.slice a m c) n (rcells L)) (i : Nat) (hi : i < L.length) : ∃ g, a = some ⟨g, 0, none⟩ ∧ w.cell? ⟨g, i, none⟩ = some (.int .i32 (L[i] : Int)) := by
  have hl := h.1
  simp [rcells] at hl
  rcases h.2 with ⟨e, h0⟩ | ⟨g, cap, cur, e, hB, hh, hcap, hm, hsz, hx⟩
  · omega
  · obtain ⟨rfl, rfl, rfl⟩ : a = some ⟨g, 0, none⟩ ∧ m = n ∧ c = cap := by cases e; exact ⟨rfl, rfl, rfl⟩
    refine ⟨g, rfl, ?_⟩
    rw [h.cellAt i (by omega)]
    simp [rcells, hi]
set_option maxHeartbeats 4000000 in
set_option maxRecDepth 100000 in
theorem ccindex_any (s : ByteArray) (r : Int) (w : World) (hs : s.size ≤ 1048576) :
    Calls Tryd.prog 140 #[.string s, .int .i32 r] w fun e w' => e = .returned (.int .i64 (findR (runes s.data.toList) r 0)) ∧ Below w.heap.size w w' := by
  have c := rlist_any s w (by omega)
  have hl : (runes s.data.toList).length ≤ 1048576 := by
    have := runes_length s.data.toList
    rw [← size_eq] at this; omega
  generalize runes s.data.toList = l at *
  obtain ⟨Z, hZ⟩ : ∃ Z, findR l r 0 = Z := ⟨_, rfl⟩
  rw [hZ]
  have hF : Hid (findR (l.drop 0) r (0 : Nat) = Z) := Lib.hid hZ
  clear hZ
  go_enter Tryd.func140, Tryd.ntmps140
  go_wp2_with (go_at_call 144; refine c.mono ?_; rintro e w1 ⟨v, rfl, ho, hb⟩; obtain ⟨a, cp, rfl⟩ := own_len ho)
  clear c
  go_loop [10] (fun v => ∃ k : Nat, v = .int .i64 k ∧ k ≤ l.length ∧ Hid (findR (l.drop k) r (k : Nat) = Z)) (fun v => l.length - (intOf v).toNat)
  case atStart => exact ⟨0, rfl, Nat.zero_le _, hF⟩
  case round =>
    clear hF
    obtain ⟨k, rfl, hk, HF⟩ := hrel
    by_cases hlt : k < l.length
    · have hz : (k : Int) < (l.length : Int) := by omega
      obtain ⟨g, rfl, hc⟩ := own_runes ho k hlt
      have hs := findR_drop l r k hlt (k : Int)
      have HF2 := HF.out
      rw [hs] at HF2
      generalize (l[k] : Int) = x at *
      by_cases hx : x = r
      · have HZ : Hid (Z = (k : Int)) := by rw [if_pos hx] at HF2; exact Lib.hid HF2.symm
        have hxr : (x == r) = true := by simp [hx]
        clear HF HF2 hs hx
        go_wp2_with fail
        go_ret
        exact ⟨ret_int HZ.out.symm, hb⟩
      · have HZ : Hid (findR (l.drop (k + 1)) r ((k + 1 : Nat) : Int) = Z) := by rw [if_neg hx] at HF2; exact Lib.hid (by rw [← HF2]; rfl)
        have hxr : (x == r) = false := by simpa using hx
        clear HF HF2 hs hx
        go_wp2_with fail
        go_round
        case rel => exact ⟨k + 1, by go_num, by omega, HZ⟩
        case measure => simp [intOf]; omega
    · obtain rfl : k = l.length := by omega
      have HZ : Hid (Z = -1) := by have h := HF.out; rw [List.drop_length] at h; exact Lib.hid h.symm
      have hz : ¬ (l.length : Int) < (l.length : Int) := by omega
      clear HF
      go_wp2_with fail
      go_ret
      exact ⟨ret_int HZ.out.symm, hb⟩
end Go.Proofs.YtheemefggkcfbaaDoor
namespace Go.Proofs.YtheemefggkcfbaaDoor
open Go Go.Lib Go.RowKit Go.Shelf
/-- What the reference's Encode tells of the kind. -/
def EncOk (k x er : Int) : Prop := (k = 0 ∧ er = 10) ∨ (k = 1 ∧ er = 0 ∧ 32 ≤ x ∧ x ≤ 255) ∨ (k = 2 ∧ er = 0 ∧ x = 17) ∨ (k = 3 ∧ er = 0 ∧ (x = 18 ∨ x = 19))
def EncPost (r : Int) (w : World) (e : Ending) (w' : World) : Prop := ∃ x y er, e = .returned (.tuple #[.int .u8 x, .int .u8 y, .int .i64 er]) ∧ EncOk (kindC r) x er ∧ Below w.heap.size w w'
theorem enc_post {r x y er : Int} {w w' : World} (h : EncOk (kindC r) x er) (hb : Below w.heap.size w w') : EncPost r w (.returned (.tuple #[.int .u8 x, .int .u8 y, .int .i64 er])) w' := ⟨x, y, er, rfl, h, hb⟩
set_option maxHeartbeats 4000000 in
set_option maxRecDepth 100000 in
theorem enc_any (r : Int) (w : World) : Calls Tryd.prog 122 #[.int .i32 r] w (EncPost r w) := by
  have cB := fun w => ccindex_any ccB r w (by rw [ccB_size]; decide)
  have cS := fun w => ccindex_any ccS r w (by rw [ccS_size]; decide)
  have cF := fun w => ccindex_any ccF r w (by rw [ccF_size]; decide)
  have cT := fun w => ccindex_any ccT r w (by rw [ccT_size]; decide)
  have gB := findR_ge (runes ccB.data.toList) r 0 (Int.le_refl _)
  rw [ccB_len] at gB
  have HB := Lib.hid (⟨@findR_pos ccBL r, @findR_neg ccBL r⟩ : (memI ccBL r = true → 0 ≤ findR ccBL r 0) ∧ (memI ccBL r = false → findR ccBL r 0 < 0))
  change ∀ w, Calls Tryd.prog 140 #[.string ccB, .int .i32 r] w fun e w' => e = .returned (.int .i64 (findR ccBL r 0)) ∧ Below w.heap.size w w' at cB
  change -1 ≤ findR ccBL r 0 ∧ findR ccBL r 0 ≤ 0 + (96 : Nat) at gB
  have gS := findR_ge (runes ccS.data.toList) r 0 (Int.le_refl _)
  rw [ccS_len] at gS
  have HS := Lib.hid (⟨@findR_pos ccSL r, @findR_neg ccSL r⟩ : (memI ccSL r = true → 0 ≤ findR ccSL r 0) ∧ (memI ccSL r = false → findR ccSL r 0 < 0))
  change ∀ w, Calls Tryd.prog 140 #[.string ccS, .int .i32 r] w fun e w' => e = .returned (.int .i64 (findR ccSL r 0)) ∧ Below w.heap.size w w' at cS
  change -1 ≤ findR ccSL r 0 ∧ findR ccSL r 0 ≤ 0 + (16 : Nat) at gS
  have gF := findR_ge (runes ccF.data.toList) r 0 (Int.le_refl _)
  rw [ccF_len] at gF
  have HF := Lib.hid (⟨@findR_pos ccFL r, @findR_neg ccFL r⟩ : (memI ccFL r = true → 0 ≤ findR ccFL r 0) ∧ (memI ccFL r = false → findR ccFL r 0 < 0))
  change ∀ w, Calls Tryd.prog 140 #[.string ccF, .int .i32 r] w fun e w' => e = .returned (.int .i64 (findR ccFL r 0)) ∧ Below w.heap.size w w' at cF
  change -1 ≤ findR ccFL r 0 ∧ findR ccFL r 0 ≤ 0 + (32 : Nat) at gF
  have gT := findR_ge (runes ccT.data.toList) r 0 (Int.le_refl _)
  rw [ccT_len] at gT
  have HT := Lib.hid (⟨@findR_pos ccTL r, @findR_neg ccTL r⟩ : (memI ccTL r = true → 0 ≤ findR ccTL r 0) ∧ (memI ccTL r = false → findR ccTL r 0 < 0))
  change ∀ w, Calls Tryd.prog 140 #[.string ccT, .int .i32 r] w fun e w' => e = .returned (.int .i64 (findR ccTL r 0)) ∧ Below w.heap.size w w' at cT
  change -1 ≤ findR ccTL r 0 ∧ findR ccTL r 0 ≤ 0 + (32 : Nat) at gT
  have e1 := @kind1 r
  have e2 := @kind2 r
  have e3 := @kind3 r
  have e4 := @kind4 r
  have e0 := @kind0 r
  rw [show basicL = ccBL from basic_eq] at e1 e2 e3 e4 e0
  have K1 := Lib.hid e1
  have K2 := Lib.hid e2
  have K3 := Lib.hid e3
  have K4 := Lib.hid e4
  have K0 := Lib.hid e0
  clear e1 e2 e3 e4 e0
  generalize findR ccBL r 0 = iB at *
  generalize findR ccSL r 0 = iS at *
  generalize findR ccFL r 0 = iF at *
  generalize findR ccTL r 0 = iT at *
  generalize memI ccBL r = mB at *
  generalize memI ccSL r = mS at *
  generalize memI ccFL r = mF at *
  generalize memI ccTL r = mT at *
  cases mB
  · have h0 := HB.out.2 rfl
    cases mS
    · have h1 := HS.out.2 rfl
      cases mF
      · have h2 := HF.out.2 rfl
        cases mT
        · have h3 := HT.out.2 rfl
          have HK := Lib.hid (K0.out rfl rfl rfl rfl)
          clear HB HS HF HT K1 K2 K3 K4 K0
          go_enter Tryd.func122, Tryd.ntmps122
          go_wp2_with fail
          refine (cB _).mono ?_
          rintro e w2 ⟨rfl, hb2⟩
          go_wp2_with fail
          refine (cS _).mono ?_
          rintro e w3 ⟨rfl, hb3⟩
          go_wp2_with fail
          refine (cF _).mono ?_
          rintro e w4 ⟨rfl, hb4⟩
          go_wp2_with fail
          refine (cT _).mono ?_
          rintro e w5 ⟨rfl, hb5⟩
          go_wp2_with fail
          go_ret3
          exact enc_post (Or.inl ⟨HK.out.symm, rfl⟩) (below_trans (below_trans (below_trans (hb2) hb3) hb4) hb5)
        · have h3 := HT.out.1 rfl
          have HK := Lib.hid (K4.out rfl rfl rfl rfl)
          clear HB HS HF HT K1 K2 K3 K4 K0
          go_enter Tryd.func122, Tryd.ntmps122
          go_wp2_with fail
          refine (cB _).mono ?_
          rintro e w2 ⟨rfl, hb2⟩
          go_wp2_with fail
          refine (cS _).mono ?_
          rintro e w3 ⟨rfl, hb3⟩
          go_wp2_with fail
          refine (cF _).mono ?_
          rintro e w4 ⟨rfl, hb4⟩
          go_wp2_with fail
          refine (cT _).mono ?_
          rintro e w5 ⟨rfl, hb5⟩
          go_wp2_with fail
          go_ret3
          exact enc_post (Or.inr (Or.inr (Or.inr ⟨HK.out.symm, rfl, Or.inr rfl⟩))) (below_trans (below_trans (below_trans (hb2) hb3) hb4) hb5)
      · have h2 := HF.out.1 rfl
        have HK := Lib.hid (K3.out rfl rfl rfl)
        clear HB HS HF HT K1 K2 K3 K4 K0
        go_enter Tryd.func122, Tryd.ntmps122
        go_wp2_with fail
        refine (cB _).mono ?_
        rintro e w2 ⟨rfl, hb2⟩
        go_wp2_with fail
        refine (cS _).mono ?_
        rintro e w3 ⟨rfl, hb3⟩
        go_wp2_with fail
        refine (cF _).mono ?_
        rintro e w4 ⟨rfl, hb4⟩
        go_wp2_with fail
        go_ret3
        exact enc_post (Or.inr (Or.inr (Or.inr ⟨HK.out.symm, rfl, Or.inl rfl⟩))) (below_trans (below_trans (hb2) hb3) hb4)
    · have h1 := HS.out.1 rfl
      have HK := Lib.hid (K2.out rfl rfl)
      clear HB HS HF HT K1 K2 K3 K4 K0
      go_enter Tryd.func122, Tryd.ntmps122
      go_wp2_with fail
      refine (cB _).mono ?_
      rintro e w2 ⟨rfl, hb2⟩
      go_wp2_with fail
      refine (cS _).mono ?_
      rintro e w3 ⟨rfl, hb3⟩
      go_wp2_with fail
      go_ret3
      exact enc_post (Or.inr (Or.inr (Or.inl ⟨HK.out.symm, rfl, rfl⟩))) (below_trans (hb2) hb3)
  · have h0 := HB.out.1 rfl
    have HK := Lib.hid (K1.out rfl)
    clear HB HS HF HT K1 K2 K3 K4 K0
    go_enter Tryd.func122, Tryd.ntmps122
    go_wp2_with fail
    refine (cB _).mono ?_
    rintro e w2 ⟨rfl, hb2⟩
    go_wp2_with fail
    go_ret3
    exact enc_post (Or.inr (Or.inl ⟨HK.out.symm, rfl, by omega, by omega⟩)) (hb2)
set_option maxHeartbeats 1000000 in
theorem rkind_any (r : Int) (w : World) : Calls Tryd.prog 104 #[.int .i32 r] w fun e w' => e = .returned (.int .u8 (kindC r)) ∧ Below w.heap.size w w' := by
  have c : Calls Tryd.prog 122 #[.int .i32 r] w fun e w' => ∃ x y er, e = .returned (.tuple #[.int .u8 x, .int .u8 y, .int .i64 er]) ∧ EncOk (kindC r) x er ∧ Below w.heap.size w w' := enc_any r w
  generalize kindC r = K at *
  go_enter Tryd.func104, Tryd.ntmps104
  go_wp2_with fail
  refine c.mono ?_
  rintro e w1 ⟨x, y, er, rfl, hk, hb⟩
  rcases hk with ⟨rfl, rfl⟩ | ⟨rfl, rfl, h1, h2⟩ | ⟨rfl, rfl, rfl⟩ | ⟨rfl, rfl, rfl | rfl⟩
  all_goals
    go_wp2_with fail
    go_ret
    exact ⟨rfl, hb⟩
end Go.Proofs.YtheemefggkcfbaaDoor
namespace Go.Proofs.YtheemefggkcfbaaDoor
open Go Go.Lib Go.RowKit Go.Shelf
theorem inCC_bad : inCC 65533 = false := by decide +kernel
theorem carC_validD : ∀ (n : Nat) (l : List UInt8), l.length ≤ n → carC l = true → validD l = true
  | n, [], _, _ => rfl
  | 0, _ :: _, h, _ => by simp at h
  | n + 1, b :: t, hl, h => by
    have hne : b :: t ≠ [] := by simp
    have hw := decodeL_width (b :: t)
    unfold carC at h
    rw [runes_step _ hne] at h
    simp only [List.all_cons, Bool.and_eq_true] at h
    rw [validD_step _ hne, if_neg]
    · exact carC_validD n _ (by rw [List.length_drop]; simp at hl ⊢; omega) h.2
    · rintro ⟨h1, _⟩
      rw [h1, inCC_bad] at h
      simp at h
theorem carC_false {l : List UInt8} (h : validD l = false) : carC l = false := by
  cases h' : carC l with
  | false => rfl
  | true => rw [carC_validD _ l (Nat.le_refl _) h'] at h; cases h
theorem notCC2 (R : Nat) : inCC R = !(kindC (R : Int) == 0) := rfl
set_option maxHeartbeats 4000000 in
set_option maxRecDepth 100000 in
theorem rcarries_any (s : ByteArray) (w : World) (hs : s.size ≤ 9223372036854775807) (hE : Env w) :
    Calls Tryd.prog 74 #[.string s] w fun e w' => e = .returned (.bool (carC s.data.toList)) ∧ Below w.heap.size w w' := by
  have cV := Tryd.utf8_ValidString s w hs hE.tabs
  by_cases hv : validD s.data.toList = true
  case neg =>
    have hv' : validD s.data.toList = false := by simpa using hv
    rw [carC_false hv']
    rw [hv'] at cV
    clear hv hv'
    go_enter Tryd.func74, Tryd.ntmps74
    go_wp2_with (refine cV.mono ?_; rintro e w1 ⟨rfl, hb1⟩)
    go_ret
    exact ⟨rfl, hb1⟩
  obtain ⟨Z, hZ⟩ : ∃ Z, carC s.data.toList = Z := ⟨_, rfl⟩
  rw [hZ]
  rw [hv] at cV
  clear hv
  go_enter Tryd.func74, Tryd.ntmps74
  go_wp2_with (refine cV.mono ?_; rintro e w1 ⟨rfl, hb1⟩)
  go_loopg [4] s.size (fun gf s4 wx => ∃ (pos : Nat), wx.heap[w1.heap.size]? = some (.stringIter s pos) ∧ Below w1.heap.size w1 wx ∧ (runesAt s pos).all inCC = Z ∧ s.size ≤ pos + gf)
  case atStart => exact ⟨0, World.iter_heap w1 s 0, below_iter _ _ _, hZ, by omega⟩
  case round =>
    obtain ⟨pos, hit, hbw, hc, hg⟩ := hrel
    by_cases hp : pos < s.size
    · obtain ⟨g', rfl⟩ : ∃ g', gk = g' + 1 := ⟨gk - 1, by omega⟩
      have hnx : ∀ ty, (Instr.next (.pointer (some ⟨w1.heap.size, 0, none⟩)) true ty).run Tryd.prog wr = _ := fun ty => Lib.run_next_any_at wr w1.heap.size s pos ty hit hp
      have hwd := Lib.decode_width_pos s pos hp
      rw [runesAt_step s pos hp] at hc
      have hit2 := Lib.iterAt_heap wr w1.heap.size s pos (pos + (Utf8.decode s pos).2) hit
      have hbw2 := Lib.below_iterAt hbw (k := w1.heap.size) (Nat.le_refl _) s (pos + (Utf8.decode s pos).2)
      generalize (Utf8.decode s pos).2 = K at *
      generalize (Utf8.decode s pos).1 = R at *
      generalize wr.iterAt w1.heap.size s (pos + K) = W at *
      have c := rkind_any (R : Int) W
      rw [List.all_cons, notCC2] at hc
      generalize kindC (R : Int) = I at *
      by_cases hi : I = 0
      · have hcz : Hid (Z = false) := Lib.hid (by rw [← hc, hi]; rfl)
        subst hi
        clear hc hZ
        go_wp2_with (refine c.mono ?_; rintro e w2 ⟨rfl, hb2⟩)
        go_ret
        exact ⟨ret_bool hcz.out.symm, below_trans hb1 (below_grow hbw2 hbw2.size hb2)⟩
      · have hi0 : (I == 0) = false := by simpa using hi
        have hcz : (runesAt s (pos + K)).all inCC = Z := by rw [← hc, hi0]; rfl
        clear hi hc
        go_wp2_with (refine c.mono ?_; rintro e w2 ⟨rfl, hb2⟩)
        go_roundg g'
        case measure => omega
        case rel => exact ⟨pos + K, (hb2.block _ (heap_lt hit2)).trans hit2, below_grow hbw2 hbw2.size hb2, hcz, by omega⟩
    · have hnx : ∀ ty, (Instr.next (.pointer (some ⟨w1.heap.size, 0, none⟩)) true ty).run Tryd.prog wr = _ := fun ty => Lib.run_next_end_at wr w1.heap.size s pos ty hit hp
      rw [runesAt_end s pos hp] at hc
      go_wp2
      go_ret
      exact ⟨ret_bool (by rw [← hc]; rfl), below_trans hb1 hbw⟩
/-! ### words -/
def spR (r : Nat) : Bool := r == 32 || r == 160
/-- The error of a word. -/
def wordE (l : List UInt8) : Int := if l = [] ∨ validD l = false ∨ (runes l).any spR = true then 4 else if carC l = true then (if 32 < (runes l).length then 11 else 0) else 10
theorem wordE_form {l : List UInt8} (h : l = [] ∨ validD l = false ∨ (runes l).any spR = true) : wordE l = 4 := by unfold wordE; rw [if_pos h]
theorem wordE_char {l : List UInt8} (h0 : l ≠ []) (h1 : validD l = true) (h2 : (runes l).any spR = false) (h3 : carC l = false) : wordE l = 10 := by
  unfold wordE; rw [if_neg (by rintro (h | h | h); exact h0 h; rw [h1] at h; cases h; rw [h2] at h; cases h), h3]; rfl
theorem wordE_width {l : List UInt8} (h0 : l ≠ []) (h1 : validD l = true) (h2 : (runes l).any spR = false) (h3 : carC l = true) : wordE l = if 32 < (runes l).length then 11 else 0 := by
  unfold wordE; rw [if_neg (by rintro (h | h | h); exact h0 h; rw [h1] at h; cases h; rw [h2] at h; cases h), if_pos h3]
theorem empty_str (s : ByteArray) : (s.toList = [] ↔ s.data.toList = []) ∧ s.toList.isEmpty = s.data.toList.isEmpty := by rw [toList_data]; exact ⟨Iff.rfl, rfl⟩
end Go.Proofs.YtheemefggkcfbaaDoor
namespace Go.Proofs.YtheemefggkcfbaaDoor
open Go Go.Lib Go.RowKit Go.Shelf
theorem spR_int (R : Nat) : spR R = (((R : Int) == 32) || ((R : Int) == 160)) := by
  unfold spR
  congr 1
  · exact Bool.eq_iff_iff.2 (by simp; omega)
  · exact Bool.eq_iff_iff.2 (by simp; omega)
set_option maxHeartbeats 4000000 in
set_option maxRecDepth 100000 in
theorem rword_any (s : ByteArray) (w : World) (hs : s.size < 9223372036854775807) (hE : Env w) :
    Calls Tryd.prog 35 #[.string s] w fun e w' => e = .returned (.int .i64 (wordE s.data.toList)) ∧ Below w.heap.size w w' := by
  obtain ⟨he1, he2⟩ := empty_str s
  have cV := Tryd.utf8_ValidString s w (by omega) hE.tabs
  by_cases h0 : s.data.toList = []
  · rw [wordE_form (Or.inl h0)]
    have x1 : s.toList = [] := he1.2 h0
    clear he1 he2 cV h0
    go_enter Tryd.func35, Tryd.ntmps35
    go_wp2_with fail
    go_ret
    exact ⟨rfl, Below.refl _ _⟩
  have x1 : s.toList.isEmpty = false := by rw [he2]; simpa using h0
  have x2 : ¬ s.toList = [] := fun h => h0 (he1.1 h)
  clear he1 he2
  cases hv : validD s.data.toList
  · rw [wordE_form (Or.inr (Or.inl hv))]
    rw [hv] at cV
    clear hv h0
    go_enter Tryd.func35, Tryd.ntmps35
    go_wp2_with (go_at_call 71; refine cV.mono ?_; rintro e w1 ⟨rfl, hb1⟩)
    go_ret
    exact ⟨rfl, hb1⟩
  rw [hv] at cV
  have F1 := Lib.hid (fun h => wordE_form (l := s.data.toList) (Or.inr (Or.inr h)))
  have F2 := Lib.hid (fun h => @wordE_char s.data.toList h0 hv h)
  have F3 := Lib.hid (fun h => @wordE_width s.data.toList h0 hv h)
  have hrun := runesAt_zero s
  have cC := fun w hE => rcarries_any s w (by omega) hE
  have cR := fun w => Tryd.utf8_RuneCountInString s w hs
  rw [runeCount_runes] at cR
  generalize wordE s.data.toList = Z at *
  generalize carC s.data.toList = CC at *
  obtain ⟨N, hN⟩ : ∃ N, (runes s.data.toList).length = N := ⟨_, rfl⟩
  obtain ⟨A, hA⟩ : ∃ A, (runes s.data.toList).any spR = A := ⟨_, rfl⟩
  rw [hN] at cR
  rw [hA] at F1
  rw [hA, hN] at F3
  rw [hA] at F2
  have hA0 : Hid ((runesAt s 0).any spR = A) := Lib.hid hA
  clear hN hA hrun h0 hv
  go_enter Tryd.func35, Tryd.ntmps35
  go_wp2_with (go_at_call 71; refine cV.mono ?_; rintro e w1 ⟨rfl, hb1⟩)
  clear cV
  go_loopg [4] s.size (fun gf s4 wx => ∃ (pos : Nat), wx.heap[w1.heap.size]? = some (.stringIter s pos) ∧ Below w1.heap.size w1 wx ∧ Hid ((runesAt s pos).any spR = A) ∧ s.size ≤ pos + gf)
  case atStart => exact ⟨0, World.iter_heap w1 s 0, below_iter _ _ _, hA0, by omega⟩
  case round =>
    clear hA0
    obtain ⟨pos, hit, hbw, HA, hg⟩ := hrel
    by_cases hp : pos < s.size
    · obtain ⟨g', rfl⟩ : ∃ g', gk = g' + 1 := ⟨gk - 1, by omega⟩
      have hnx : ∀ ty, (Instr.next (.pointer (some ⟨w1.heap.size, 0, none⟩)) true ty).run Tryd.prog wr = _ := fun ty => Lib.run_next_any_at wr w1.heap.size s pos ty hit hp
      have hwd := Lib.decode_width_pos s pos hp
      have hc := HA.out
      rw [runesAt_step s pos hp, List.any_cons, spR_int] at hc
      have hit2 := Lib.iterAt_heap wr w1.heap.size s pos (pos + (Utf8.decode s pos).2) hit
      have hbw2 := Lib.below_iterAt hbw (k := w1.heap.size) (Nat.le_refl _) s (pos + (Utf8.decode s pos).2)
      generalize (Utf8.decode s pos).2 = K at *
      generalize (Utf8.decode s pos).1 = R at *
      generalize wr.iterAt w1.heap.size s (pos + K) = W at *
      clear HA
      by_cases h32 : (R : Int) = 32
      · have hz : Hid (Z = 4) := Lib.hid (F1.out (by rw [← hc, h32]; rfl))
        have e32 : ((R : Int) == 32) = true := by simpa using h32
        clear hc h32
        go_wp2_with fail
        go_ret
        exact ⟨ret_int hz.out.symm, below_trans hb1 hbw2⟩
      · have e32 : ((R : Int) == 32) = false := by simpa using h32
        by_cases h160 : (R : Int) = 160
        · have hz : Hid (Z = 4) := Lib.hid (F1.out (by rw [← hc, h160]; rfl))
          have e160 : ((R : Int) == 160) = true := by simpa using h160
          clear hc h32 h160
          go_wp2_with fail
          go_ret
          exact ⟨ret_int hz.out.symm, below_trans hb1 hbw2⟩
        · have e160 : ((R : Int) == 160) = false := by simpa using h160
          have HA2 : Hid ((runesAt s (pos + K)).any spR = A) := by rw [e32, e160] at hc; exact Lib.hid hc
          clear hc h32 h160
          go_wp2_with fail
          go_roundg g'
          case measure => omega
          case rel => exact ⟨pos + K, hit2, hbw2, HA2, by omega⟩
    · have hnx : ∀ ty, (Instr.next (.pointer (some ⟨w1.heap.size, 0, none⟩)) true ty).run Tryd.prog wr = _ := fun ty => Lib.run_next_end_at wr w1.heap.size s pos ty hit hp
      have hAf : A = false := by rw [← HA.out, runesAt_end s pos hp]; rfl
      have hbx := below_trans hb1 hbw
      have cC1 := cC wr (hE.below hbx)
      cases CC
      · have hz : Hid (Z = 10) := Lib.hid (F2.out hAf rfl)
        clear HA hAf
        go_wp2_with (go_at_call 74; refine cC1.mono ?_; rintro e w2 ⟨rfl, hb2⟩)
        go_ret
        exact ⟨ret_int hz.out.symm, below_trans hbx hb2⟩
      · have hzz := F3.out hAf rfl
        clear HA hAf
        by_cases hN : 32 < N
        · have hz : Hid (Z = 11) := Lib.hid (by rw [hzz, if_pos hN])
          have hNz : (32 : Int) < (N : Int) := by omega
          clear hzz
          go_wp2_with (first | (go_at_call 74; refine cC1.mono ?_; rintro e w2 ⟨rfl, hb2⟩) | (go_at_call 66; refine (cR _).mono ?_; rintro e w3 ⟨rfl, pos, rfl⟩))
          go_ret
          exact ⟨ret_int hz.out.symm, below_trans (below_trans hbx hb2) (below_iter _ _ _)⟩
        · have hz : Hid (Z = 0) := Lib.hid (by rw [hzz, if_neg hN])
          have hNz : ¬ (32 : Int) < (N : Int) := by omega
          clear hzz
          go_wp2_with (first | (go_at_call 74; refine cC1.mono ?_; rintro e w2 ⟨rfl, hb2⟩) | (go_at_call 66; refine (cR _).mono ?_; rintro e w3 ⟨rfl, pos, rfl⟩))
          go_ret
          exact ⟨ret_int hz.out.symm, below_trans (below_trans hbx hb2) (below_iter _ _ _)⟩
end Go.Proofs.YtheemefggkcfbaaDoor
namespace Go.Proofs.YtheemefggkcfbaaDoor
open Go Go.Lib Go.RowKit Go.Shelf
def nbs : ByteArray := ⟨#[32, 194, 160]⟩
theorem nbs_dec0 : Utf8.decode nbs 0 = (32, 1) := by decide +kernel
theorem nbs_dec1 : Utf8.decode nbs 1 = (160, 2) := by decide +kernel
set_option maxHeartbeats 4000000 in
set_option maxRecDepth 100000 in
theorem irune_bad (w : World) : Calls Tryd.prog 118 #[.string nbs, .int .i32 65533] w fun e w' => e = .returned (.int .i64 (-1)) ∧ Below w.heap.size w w' := by
  have hsz : nbs.size = 3 := rfl
  have D0 := Lib.hid nbs_dec0
  have D1 := Lib.hid nbs_dec1
  generalize nbs = S at *
  have HS := Lib.hid hsz
  clear hsz
  go_enter Tryd.func118, Tryd.ntmps118
  go_wp2_with fail
  go_loopw [] (fun w' => ∃ (pos : Nat), w' = w.iter S pos ∧ (pos = 0 ∨ pos = 1 ∨ pos = 3)) (fun w' => 3 - w'.iterPos w.heap.size)
  case atStart => exact ⟨0, rfl, Or.inl rfl⟩
  case round =>
    obtain ⟨pos, rfl, h | h | h⟩ := hrel
    · subst h
      have hnx : ∀ ty, (Instr.next (.pointer (some ⟨w.heap.size, 0, none⟩)) true ty).run Tryd.prog (w.iter S 0) = _ := fun ty => run_next_any w S 0 ty (by rw [HS.out]; omega)
      rw [D0.out] at hnx
      go_wp2
      go_roundw
      case rel => exact ⟨1, rfl, Or.inr (Or.inl rfl)⟩
      case measure => simp
    · subst h
      have hnx : ∀ ty, (Instr.next (.pointer (some ⟨w.heap.size, 0, none⟩)) true ty).run Tryd.prog (w.iter S 1) = _ := fun ty => run_next_any w S 1 ty (by rw [HS.out]; omega)
      rw [D1.out] at hnx
      go_wp2
      go_roundw
      case rel => exact ⟨3, rfl, Or.inr (Or.inr rfl)⟩
      case measure => simp
    · subst h
      have hnx : ∀ ty, (Instr.next (.pointer (some ⟨w.heap.size, 0, none⟩)) true ty).run Tryd.prog (w.iter S 3) = _ := fun ty => run_next_end w S 3 ty (by rw [HS.out]; omega)
      go_wp2
      go_ret
      exact ⟨rfl, below_iter _ _ _⟩
/-- A scope that is left or jumped forward in once. -/
theorem wp_scope_forward {P : Program} {a : Act} {w : World} {Q : Exit → Act → World → Prop} {c rest : Code} (l : Nat) (hf : findLabel c l = some rest)
    (h : c.wp P (Exit.jump l (fun a w => rest.wp P (Exit.noGoto Q) a w) Q) a w) : (Code.scope c).wp P Q a w := by
  refine wp_scope_jumps l (fun a w => rest.wp P (Exit.noGoto Q) a w) (fun _ _ => 0) hf h ?_
  intro a w hr
  refine wp_mono hr ?_
  intro e a' w' hq
  cases e with
  | goto l' => exact hq.elim
  | normal => exact hq
  | exit id => exact hq
  | ret => exact hq
  | panic ch => exact hq
  | outgrown => exact hq
theorem jump_ret {l : Nat} {J : Act → World → Prop} {Q : Exit → Act → World → Prop} {a : Act} {w : World} : Exit.jump l J Q .ret a w = Q .ret a w := rfl
theorem jump_normal {l : Nat} {J : Act → World → Prop} {Q : Exit → Act → World → Prop} {a : Act} {w : World} : Exit.jump l J Q .normal a w = Q .normal a w := rfl
theorem jump_goto {l : Nat} {J : Act → World → Prop} {Q : Exit → Act → World → Prop} {a : Act} {w : World} (h : J a w) : Exit.jump l J Q (.goto l) a w := ⟨rfl, h⟩
theorem below_dn {B : Nat} {a w : World} (h : Below B a w) (n : Nat) : Below B a (w.drewN n) := ⟨h.os, h.tape, h.output, h.size, h.block⟩
theorem enc2 (c : Nat) (h : 128 ≤ c) (h2 : c ≤ 2047) : ∃ x y : UInt8, Utf8.encode (c : Int) = ⟨#[x, y]⟩ ∧ x.toNat = 192 + c / 64 ∧ y.toNat = 128 + c % 64 := by
  have hv : Utf8.valid (c : Int) = true := by simp [Utf8.valid]; omega
  refine ⟨UInt8.ofNat (192 + c / 64), UInt8.ofNat (128 + c % 64), ?_, ?_, ?_⟩
  · unfold Utf8.encode
    rw [hv]
    simp only [if_true, Int.toNat_natCast]
    rw [if_neg (by omega), if_pos (by omega)]
  · rw [UInt8.toNat_ofNat_of_lt']; show 192 + c / 64 < 256; omega
  · rw [UInt8.toNat_ofNat_of_lt']; show 128 + c % 64 < 256; omega
theorem valid2 (c : Nat) (h : 128 ≤ c) (h2 : c ≤ 2047) : Lib.validRune (c : Int) = true := by
  unfold Lib.validRune; simp; omega
theorem idx_run (s : ByteArray) (i : Nat) (v : Nat) (h : i < s.size) (hv : (s.data.toList.getD i 0).toNat = v) (z : Int) (hz : z = (i : Int)) (W : World) : (Instr.index 9 (.string s) (.int .i64 z)).run Tryd.prog W = .ok (.int .u8 (v : Int)) W := by
  subst hz hv; exact idx_str s i h W
theorem ib160 (y : UInt8) : Lib.indexByte ((⟨#[160]⟩ : ByteArray).data.toList) y = if y.toNat = 160 then 0 else -1 := by
  show Lib.indexByte [160] y = _
  unfold Lib.indexByte Lib.indexByte
  by_cases h : y.toNat = 160
  · have : y = 160 := UInt8.toNat_inj.1 h
    subst this; rfl
  · rw [if_neg h]
    have : ¬ (160 : UInt8) = y := fun e => h (by rw [← e]; rfl)
    simp [this]
set_option maxHeartbeats 1000000 in
theorem cutover_any (w : World) : Calls Tryd.prog 125 #[.int .i64 3] w fun e w' => e = .returned (.int .i64 2) ∧ w = w' := by
  go_enter Tryd.func125, Tryd.ntmps125
  go_wp2
  go_ret
  exact ⟨rfl, rfl⟩
set_option maxHeartbeats 4000000 in
set_option maxRecDepth 100000 in
theorem irune_two (c : Nat) (h : 128 ≤ c) (h2 : c ≤ 2047) (w : World) : Calls Tryd.prog 118 #[.string nbs, .int .i32 (c : Int)] w fun e w' => e = .returned (.int .i64 (if c = 160 then 1 else -1)) ∧ Below w.heap.size w w' := by
  obtain ⟨x, y, he, hx, hy⟩ := enc2 c h h2
  have cV := Tryd.utf8_ValidRune (c : Int) w
  rw [valid2 c h h2] at cV
  have hconv : ∀ W, (convert 21 9 (.int .i32 (c : Int))).run Tryd.prog W = .ok (.string ⟨#[x, y]⟩) W := by
    intro W
    rw [← he]
    simp [convert, run_underlying Tryd.underlying21, run_underlying Tryd.underlying9, Conv.intToString]
  have z1 : (0 : Int) ≤ (c : Int) := by omega
  have z2 : ¬ (c : Int) < 128 := by omega
  have z3 : ((c : Int) == 65533) = false := by simp; omega
  have cI := fun W => Tryd.strings_IndexByte ⟨#[160]⟩ (y.toNat : Int) W
  rw [show ((y.toNat : Int)).toNat.toUInt8 = y by simp, ib160] at cI
  have iS := idx_run nbs 1 194 (by decide) (by decide) 1 rfl
  have iR1 := idx_run ⟨#[x, y]⟩ 1 y.toNat (by show 1 < 2; omega) rfl 1 rfl
  have iR0 := idx_run ⟨#[x, y]⟩ 0 x.toNat (by show 0 < 2; omega) rfl 0 rfl
  rw [show (⟨#[160]⟩ : ByteArray) = nbs.extract 2 3 by decide +kernel] at cI
  have hS : nbs.size = 3 := rfl
  have hR : (⟨#[x, y]⟩ : ByteArray).size = 2 := rfl
  generalize (⟨#[x, y]⟩ : ByteArray) = R at *
  generalize nbs = S at *
  generalize x.toNat = xN at *
  generalize y.toNat = yN at *
  have HZ1 : Hid (c = 160 → (if c = 160 then (1 : Int) else -1) = 1) := Lib.hid (fun h => if_pos h)
  have HZ2 : Hid (c ≠ 160 → (if c = 160 then (1 : Int) else -1) = -1) := Lib.hid (fun h => if_neg h)
  generalize (if c = 160 then (1 : Int) else -1) = Z at *
  have Hx := Lib.hid hx
  have Hy := Lib.hid hy
  clear he hx hy
  go_enter Tryd.func118, Tryd.ntmps118
  go_upto_block 1 with (go_at_call 136; refine cV.mono ?_; rintro e w1 ⟨rfl, hw1⟩; rw [hw1]; clear hw1)
  go_step3
  go_wp2_with fail
  go_loopw [9, 10] (fun v u wx => Below w.heap.size w wx ∧ ((v = .int .i64 1 ∧ u = .int .i64 0) ∨ (v = .int .i64 3 ∧ u = .int .i64 1 ∧ Hid (Z = -1)))) (fun v _ _ => 3 - (intOf v).toNat)
  case atStart => exact ⟨Below.refl _ _, Or.inl ⟨rfl, rfl⟩⟩
  case round =>
    obtain ⟨hb, ⟨rfl, rfl⟩ | ⟨rfl, rfl, HZ⟩⟩ := hrel
    · by_cases hy160 : yN = 160
      · rw [if_pos hy160] at cI
        subst hy160
        by_cases hx194 : xN = 194
        · have HZ : Hid (Z = 1) := Lib.hid (HZ1.out (by have h1 : 160 = 128 + c % 64 := Hy.out; have h2 : xN = 192 + c / 64 := Hx.out; omega))
          have hxx : ((194 : Int) != (xN : Int)) = false := by simp; omega
          go_wp2_with fail
          go_step3
          go_upto_region 6 with fail
          go_quiet (fail)
          go_upto_region 7 with fail
          go_cut [11] (fun s11 wx => s11 = .int .i64 0 ∧ Below w.heap.size w wx)
          case first =>
            go_region_with (go_at_call 135; refine (cI _).mono ?_; rintro e w2 ⟨rfl, hw2⟩; rw [hw2]; clear hw2)
            all_goals
              go_wp2_with fail
              go_meet
              exact ⟨rfl, below_dn hb _⟩
          case rest =>
            clear hb
            obtain ⟨rfl, hb⟩ := hcut
            go_wp2_with fail
            go_loopw [12] (fun v wx => Below w.heap.size w wx ∧ (v = .int .i64 1 ∨ v = .int .i64 2)) (fun v _ => 2 - (intOf v).toNat)
            case atStart => exact ⟨hb, Or.inl rfl⟩
            case round =>
              clear hb
              obtain ⟨hb, rfl | rfl⟩ := hrel
              · go_wp2_with fail
                go_quiet (fail)
                go_wp2_with fail
                go_roundw
                case rel => exact ⟨below_dn hb _, Or.inr rfl⟩
                case measure => simp [intOf]
              · go_wp2_with fail
                rw [Exit.noGoto_ret]
                simp only [Exit.inBlock]
                go_wp2_with fail
                rw [Exit.noGoto_ret]
                simp only [Exit.inBlock]
                go_ret
                exact ⟨ret_int HZ.out.symm, hb⟩
        · have HZ : Hid (Z = -1) := Lib.hid (HZ2.out (by intro hc; apply hx194; have h2 : xN = 192 + c / 64 := Hx.out; rw [h2, hc]))
          have hxx : ((194 : Int) != (xN : Int)) = true := by simp; omega
          go_wp2_with fail
          refine wp_scope_forward 0 rfl ?_
          go_upto_region 6 with fail
          go_quiet (fail)
          go_upto_region 7 with fail
          go_cut [11] (fun s11 wx => s11 = .int .i64 0 ∧ Below w.heap.size w wx)
          case first =>
            go_region_with (go_at_call 135; refine (cI _).mono ?_; rintro e w2 ⟨rfl, hw2⟩; rw [hw2]; clear hw2)
            all_goals
              go_wp2_with fail
              go_meet
              exact ⟨rfl, below_dn hb _⟩
          case rest =>
            clear hb
            obtain ⟨rfl, hb⟩ := hcut
            go_wp2_with fail
            go_loopw [12] (fun v wx => Below w.heap.size w wx ∧ v = .int .i64 1) (fun _ _ => 0)
            case atStart => exact ⟨hb, rfl⟩
            case round =>
              clear hb
              obtain ⟨hb, rfl⟩ := hrel
              go_wp2_with fail
              go_quiet (fail)
              go_wp2_with fail
              go_step3
              go_wp2_with fail
              refine jump_goto ?_
              go_wp2_with (go_at_call 125; refine (cutover_any _).mono ?_; rintro e w3 ⟨rfl, rfl⟩)
              rw [Exit.noGoto_normal]
              simp only [Exit.inBlock]
              go_roundw
              case rel =>
                (repeat apply Exists.intro)
                refine ⟨?_, rfl⟩
                exact ⟨below_dn hb _, Or.inr ⟨rfl, rfl, HZ⟩⟩
              case measure => simp [intOf]
      · have HZ : Hid (Z = -1) := Lib.hid (HZ2.out (by intro hc; apply hy160; have h1 : yN = 128 + c % 64 := Hy.out; rw [h1, hc]))
        have hyy : ((194 : Int) != (yN : Int)) = true := by have h1 : yN = 128 + c % 64 := Hy.out; simp; omega
        rw [if_neg hy160] at cI
        go_wp2_with fail
        go_step3
        go_upto_region 6 with fail
        go_quiet (fail)
        go_upto_region 7 with fail
        go_region_with (go_at_call 135; refine (cI _).mono ?_; rintro e w2 ⟨rfl, hw2⟩; rw [hw2]; clear hw2)
        all_goals
          go_wp2_with fail
          rw [Exit.noGoto_ret]
          simp only [Exit.inBlock]
          go_wp2_with fail
          rw [Exit.noGoto_ret]
          simp only [Exit.inBlock]
          go_ret
          exact ⟨ret_int HZ.out.symm, below_dn hb _⟩
    · go_wp2_with fail
      rw [Exit.noGoto_ret]
      go_ret
      exact ⟨ret_int HZ.out.symm, hb⟩
end Go.Proofs.YtheemefggkcfbaaDoor
namespace Go.Proofs.YtheemefggkcfbaaDoor
open Go Go.Lib Go.RowKit Go.Shelf
theorem enc3 (c : Nat) (h : 2048 ≤ c) (h2 : c ≤ 65535) (hs : c < 55296 ∨ 57343 < c) : ∃ x y z : UInt8, Utf8.encode (c : Int) = ⟨#[x, y, z]⟩ ∧ y.toNat = 128 + c / 64 % 64 ∧ z.toNat = 128 + c % 64 := by
  have hv : Utf8.valid (c : Int) = true := by simp [Utf8.valid]; omega
  refine ⟨UInt8.ofNat (224 + c / 4096), UInt8.ofNat (128 + c / 64 % 64), UInt8.ofNat (128 + c % 64), ?_, ?_, ?_⟩
  · unfold Utf8.encode
    rw [hv]
    simp only [if_true, Int.toNat_natCast]
    rw [if_neg (by omega), if_neg (by omega), if_pos (by omega)]
  · rw [UInt8.toNat_ofNat_of_lt']; show 128 + c / 64 % 64 < 256; omega
  · rw [UInt8.toNat_ofNat_of_lt']; show 128 + c % 64 < 256; omega
theorem enc4 (c : Nat) (h : 65536 ≤ c) (h2 : c ≤ 1114111) : ∃ x y z u : UInt8, Utf8.encode (c : Int) = ⟨#[x, y, z, u]⟩ := by
  have hv : Utf8.valid (c : Int) = true := by simp [Utf8.valid]; omega
  refine ⟨UInt8.ofNat (240 + c / 262144), UInt8.ofNat (128 + c / 4096 % 64), UInt8.ofNat (128 + c / 64 % 64), UInt8.ofNat (128 + c % 64), ?_⟩
  unfold Utf8.encode
  rw [hv]
  simp only [if_true, Int.toNat_natCast]
  rw [if_neg (by omega), if_neg (by omega), if_neg (by omega)]
theorem valid_any2 (c : Nat) (h2 : c ≤ 1114111) (hs : c < 55296 ∨ 57343 < c) : Lib.validRune (c : Int) = true := by
  unfold Lib.validRune; simp; omega
theorem conv_rune (c : Nat) (R : ByteArray) (he : Utf8.encode (c : Int) = R) (W : World) : (convert 21 9 (.int .i32 (c : Int))).run Tryd.prog W = .ok (.string R) W := by
  rw [← he]
  simp [convert, run_underlying Tryd.underlying21, run_underlying Tryd.underlying9, Conv.intToString]
set_option maxHeartbeats 4000000 in
set_option maxRecDepth 100000 in
theorem irune_four (c : Nat) (h : 65536 ≤ c) (h2 : c ≤ 1114111) (w : World) : Calls Tryd.prog 118 #[.string nbs, .int .i32 (c : Int)] w fun e w' => e = .returned (.int .i64 (-1)) ∧ Below w.heap.size w w' := by
  obtain ⟨x, y, z, u, he⟩ := enc4 c h h2
  have cV := Tryd.utf8_ValidRune (c : Int) w
  rw [valid_any2 c h2 (by omega)] at cV
  have hconv := conv_rune c _ he
  have z1 : (0 : Int) ≤ (c : Int) := by omega
  have z2 : ¬ (c : Int) < 128 := by omega
  have z3 : ((c : Int) == 65533) = false := by simp; omega
  have hS : nbs.size = 3 := rfl
  have hR : (⟨#[x, y, z, u]⟩ : ByteArray).size = 4 := rfl
  generalize (⟨#[x, y, z, u]⟩ : ByteArray) = R at *
  generalize nbs = S at *
  clear he
  go_enter Tryd.func118, Tryd.ntmps118
  go_upto_block 1 with (go_at_call 136; refine cV.mono ?_; rintro e w1 ⟨rfl, hw1⟩; rw [hw1]; clear hw1)
  go_step3
  go_wp2_with fail
  go_loop [9] (fun v => v = .int .i64 3) (fun _ => 0)
  case atStart => rfl
  case round =>
    subst hrel
    go_wp2_with fail
    go_ret
    exact ⟨rfl, Below.refl _ _⟩
theorem ib_nil (y : UInt8) : Lib.indexByte ((⟨#[]⟩ : ByteArray).data.toList) y = -1 := rfl
set_option maxHeartbeats 4000000 in
set_option maxRecDepth 100000 in
theorem irune_three (c : Nat) (h : 2048 ≤ c) (h2 : c ≤ 65535) (hs : c < 55296 ∨ 57343 < c) (hb : c ≠ 65533) (w : World) : Calls Tryd.prog 118 #[.string nbs, .int .i32 (c : Int)] w fun e w' => e = .returned (.int .i64 (-1)) ∧ Below w.heap.size w w' := by
  obtain ⟨x, y, z, he, hy, hz⟩ := enc3 c h h2 hs
  have cV := Tryd.utf8_ValidRune (c : Int) w
  rw [valid_any2 c (by omega) hs] at cV
  have hconv := conv_rune c _ he
  have z1 : (0 : Int) ≤ (c : Int) := by omega
  have z2 : ¬ (c : Int) < 128 := by omega
  have z3 : ((c : Int) == 65533) = false := by simp; omega
  have cI := fun W => Tryd.strings_IndexByte ⟨#[]⟩ (z.toNat : Int) W
  rw [show ((z.toNat : Int)).toNat.toUInt8 = z by simp, ib_nil, show (⟨#[]⟩ : ByteArray) = ByteArray.empty from rfl] at cI
  have iS1 := idx_run nbs 1 194 (by decide) (by decide) 1 rfl
  have iS2 := idx_run nbs 2 160 (by decide) (by decide) 2 rfl
  have iR2 := idx_run ⟨#[x, y, z]⟩ 2 z.toNat (by show 2 < 3; omega) rfl 2 rfl
  have iR1 := idx_run ⟨#[x, y, z]⟩ 1 y.toNat (by show 1 < 3; omega) rfl 1 rfl
  have hS : nbs.size = 3 := rfl
  have hR : (⟨#[x, y, z]⟩ : ByteArray).size = 3 := rfl
  generalize (⟨#[x, y, z]⟩ : ByteArray) = R at *
  generalize nbs = S at *
  generalize y.toNat = yN at *
  generalize z.toNat = zN at *
  have hyy : ((194 : Int) != (yN : Int)) = true := by simp; omega
  have Hz := Lib.hid hz
  clear he hy hz
  go_enter Tryd.func118, Tryd.ntmps118
  go_upto_block 1 with (go_at_call 136; refine cV.mono ?_; rintro e w1 ⟨rfl, hw1⟩; rw [hw1]; clear hw1)
  go_step3
  go_wp2_with fail
  go_loopw [9, 10] (fun v u wx => Below w.heap.size w wx ∧ ((v = .int .i64 2 ∧ u = .int .i64 0) ∨ (v = .int .i64 3 ∧ u = .int .i64 1))) (fun v _ _ => 3 - (intOf v).toNat)
  case atStart => exact ⟨Below.refl _ _, Or.inl ⟨rfl, rfl⟩⟩
  case round =>
    obtain ⟨hb, ⟨rfl, rfl⟩ | ⟨rfl, rfl⟩⟩ := hrel
    · by_cases hz160 : zN = 160
      · subst hz160
        go_wp2_with fail
        refine wp_scope_forward 0 rfl ?_
        go_upto_region 6 with fail
        go_quiet (fail)
        go_wp2_with fail
        go_loopw [12] (fun v wx => Below w.heap.size w wx ∧ v = .int .i64 1) (fun _ _ => 0)
        case atStart => exact ⟨below_dn hb _, rfl⟩
        case round =>
          clear hb
          obtain ⟨hb, rfl⟩ := hrel
          go_wp2_with fail
          go_quiet (fail)
          go_wp2_with fail
          go_step3
          go_wp2_with fail
          refine jump_goto ?_
          go_wp2_with (go_at_call 125; refine (cutover_any _).mono ?_; rintro e w3 ⟨rfl, rfl⟩)
          rw [Exit.noGoto_normal]
          simp only [Exit.inBlock]
          go_roundw
          case rel =>
            (repeat apply Exists.intro)
            refine ⟨?_, rfl⟩
            exact ⟨below_dn hb _, Or.inr ⟨rfl, rfl⟩⟩
          case measure => simp [intOf]
      · have hzz : ((160 : Int) != (zN : Int)) = true := by simp; omega
        go_wp2_with fail
        go_step3
        go_upto_region 6 with fail
        go_quiet (fail)
        go_upto_region 7 with fail
        go_region_with (go_at_call 135; refine (cI _).mono ?_; rintro e w2 ⟨rfl, hw2⟩; rw [hw2]; clear hw2)
        all_goals
          go_wp2_with fail
          rw [Exit.noGoto_ret]
          simp only [Exit.inBlock]
          go_wp2_with fail
          rw [Exit.noGoto_ret]
          simp only [Exit.inBlock]
          go_ret
          exact ⟨rfl, below_dn hb _⟩
    · go_wp2_with fail
      rw [Exit.noGoto_ret]
      go_ret
      exact ⟨rfl, hb⟩
end Go.Proofs.YtheemefggkcfbaaDoor
namespace Go.Proofs.YtheemefggkcfbaaDoor
open Go Go.Lib Go.RowKit Go.Shelf Go.Proofs
section
variable {P : Program} {ρ : Ren}
set_option maxHeartbeats 4000000 in
set_option maxRecDepth 1000000 in
/-- The set of characters that are not all plain ones. -/
theorem make_no (L : Lays.n227 P ρ) (hv116 : ∀ w, (zeroValue (ρ.t 116)).run P w = .ok (.agg (Array.replicate 256 (.bool false))) w) (hi116 : (P.info? (ρ.t 116)).map (·.size) = some 256) (w : World) :
    Calls P (ρ.f 227) #[.string nbs] w fun e w' => e = .returned (.tuple #[.agg (Lib.setCells [32]), .bool false]) ∧ w' = w.alloc (.cells (Lib.setCells [32]) (ρ.t 116)) := by
  have t3 := L.t3; have a3 := L.a3; have z3 := L.z3; have v3 := L.v3
  have t4 := L.t4; have a4 := L.a4; have z4 := L.z4; have v4 := L.v4
  have t5 := L.t5; have a5 := L.a5; have z5 := L.z5; have v5 := L.v5
  have t9 := L.t9; have a9 := L.a9; have z9 := L.z9; have v9 := L.v9
  have t116 := L.t116
  have hS : nbs.size = 3 := rfl
  have i0 : ∀ W, (Instr.index (ρ.t 9) (.string nbs) (.int .i64 0)).run P W = .ok (.int .u8 32) W := fun W => by
    rw [run_index_string W (ρ.t 9) nbs .i64 0 L.t9, dif_pos ⟨by omega, by decide⟩]; rfl
  have i1 : ∀ W, (Instr.index (ρ.t 9) (.string nbs) (.int .i64 1)).run P W = .ok (.int .u8 194) W := fun W => by
    rw [run_index_string W (ρ.t 9) nbs .i64 1 L.t9, dif_pos ⟨by omega, by decide⟩]; rfl
  generalize nbs = S at *
  have HS := Lib.hid hS
  go_enter L.f227, Body.n227_ntmps ρ
  go_wp2
  rw [← Lib.setCells_nil]
  go_loopw [4] (fun s4 wx => (s4 = .int .i64 0 ∧ wx = w.alloc (.cells (Lib.setCells []) (ρ.t 116))) ∨ (s4 = .int .i64 1 ∧ wx = w.alloc (.cells (Lib.setCells [32]) (ρ.t 116)))) (fun v _ => 3 - (intOf v).toNat)
  case atStart => exact Or.inl ⟨rfl, rfl⟩
  case round =>
    obtain ⟨rfl, rfl⟩ | ⟨rfl, rfl⟩ := hrel
    · have hsz := Lib.setCells_size []
      have HW : Hid ((Lib.setCells []).setIfInBounds 32 (.bool true) = Lib.setCells [32]) := Lib.hid (Lib.setCells_snoc [] 32)
      go_wp2
      go_roundw
      case rel => exact Or.inr ⟨rfl, by rw [HW.out]⟩
      case measure => simp [intOf]
    · have hld := run_loadVar_new (P := P) w (ρ.t 116) (Lib.setCells [32]) 256 (ρ.t 4) L.t116 (by rw [Lib.setCells_size]; exact hi116)
      have hsz := Lib.setCells_size [32]
      have hlc := run_loadCellsFrom_new (P := P) w (ρ.t 116) (Lib.setCells [32]) 256 hsz
      have hsc := run_storeCells_new (P := P) w (ρ.t 116) (Lib.setCells [32]) (Lib.setCells [32]) (by rw [hsz]; exact hi116) rfl (Lib.setCells_one _)
      go_wp2
      simp only [L.a116, L.z116, Result.andThen, ↓reduceIte, hlc]
      rw [Oper.upon_value]
      go_wp2
      simp only [L.z116, Result.andThen, ↓reduceIte, hsc]
      rw [Oper.upon_skip]
      go_wp2
      (try simp only [Exit.inBlock, Exit.then])
      refine bodyPost_ret (v := .tuple #[.agg (Lib.setCells [32]), .bool false]) ?_ rfl ⟨rfl, rfl⟩
      rw [results_cell_tmp rfl]
      simp [asAddr, Result.andThen, hld]
end
end Go.Proofs.YtheemefggkcfbaaDoor
namespace Go.Proofs.YtheemefggkcfbaaDoor
open Go Go.Lib Go.RowKit Go.Shelf Go.Proofs
/-- strings.IndexRune of the two spaces. -/
def iR (c : Nat) : Int := if c = 32 then 0 else if c = 160 then 1 else -1
theorem iR_sp (c : Nat) : decide (0 ≤ iR c) = spR c := by
  unfold iR spR
  by_cases h : c = 32
  · simp [h]
  · by_cases h2 : c = 160
    · simp [h2]
    · simp [h, h2]
theorem ascii_nbs : ∀ c : Nat, c < 128 → Lib.indexByte nbs.data.toList ((c : Int)).toNat.toUInt8 = iR c := by decide +kernel
theorem irune_any (c : Nat) (h : c ≤ 1114111) (hs : c < 55296 ∨ 57343 < c) (w : World) : Calls Tryd.prog 118 #[.string nbs, .int .i32 (c : Int)] w fun e w' => e = .returned (.int .i64 (iR c)) ∧ Below w.heap.size w w' := by
  by_cases h1 : c < 128
  · refine (Tryd.strings_IndexRune_ascii nbs (c : Int) w (by omega) (by omega)).mono ?_
    rintro e w' ⟨rfl, rfl⟩
    rw [ascii_nbs c h1]
    exact ⟨rfl, Below.refl _ _⟩
  · by_cases h2 : c ≤ 2047
    · have e : iR c = if c = 160 then 1 else -1 := by unfold iR; rw [if_neg (by omega)]
      rw [e]; exact irune_two c (by omega) h2 w
    · have e : iR c = -1 := by unfold iR; rw [if_neg (by omega), if_neg (by omega)]
      rw [e]
      by_cases h3 : c ≤ 65535
      · by_cases h4 : c = 65533
        · subst h4; exact irune_bad w
        · exact irune_three c (by omega) h3 hs h4 w
      · exact irune_four c (by omega) h w
theorem rune_valid (s : ByteArray) (pos : Nat) : (Utf8.decode s pos).1 < 55296 ∨ 57343 < (Utf8.decode s pos).1 := by
  rw [decode_N]
  rcases decodeN_valid (s.size - pos) (s.data.toList.getD pos 0).toNat (s.data.toList.getD (pos + 1) 0).toNat (s.data.toList.getD (pos + 2) 0).toNat (s.data.toList.getD (pos + 3) 0).toNat (UInt8.toNat_lt _) with h | h
  · exact Or.inl h
  · exact Or.inr h.1
section
variable {P : Program} {ρ : Ren}
def AnyPost (s : ByteArray) (w : World) (e : Ending) (w' : World) : Prop := ∃ k : Int, e = .returned (.int .i64 k) ∧ decide (0 ≤ k) = (runes s.data.toList).any spR ∧ Below w.heap.size w w'
theorem any_post {s : ByteArray} {w w' : World} {k : Int} {e : Ending} (he : e = .returned (.int .i64 k)) (h : decide (0 ≤ k) = (runes s.data.toList).any spR) (hb : Below w.heap.size w w') : AnyPost s w e w' := ⟨k, he, h, hb⟩
set_option maxHeartbeats 4000000 in
set_option maxRecDepth 1000000 in
theorem indexAny_nbs (L : Lays.n153 P ρ) (hv116 : ∀ w, (zeroValue (ρ.t 116)).run P w = .ok (.agg (Array.replicate 256 (.bool false))) w) (hi116 : (P.info? (ρ.t 116)).map (·.size) = some 256) (s : ByteArray) (w : World) (hs : s.size < 4294967281)
    (hIR : ∀ (c : Nat), c ≤ 1114111 → (c < 55296 ∨ 57343 < c) → ∀ W, Calls P (ρ.f 152) #[.string nbs, .int .i32 (c : Int)] W fun e w' => e = .returned (.int .i64 (iR c)) ∧ Below W.heap.size W w') :
    Calls P (ρ.f 153) #[.string s, .string nbs] w (AnyPost s w) := by
  have hM := fun W => make_no { L with } hv116 hi116 W
  have hU := fun n W => Any.strings_shouldUseASCIISet { L with } n W
  have hemp : nbs.toList.isEmpty = false := by decide +kernel
  have hn1 : ((nbs.size : Int) == 1) = false := by decide +kernel
  have hrun := Lib.hid (runesAt_zero s)
  have hsc := fun W => run_storeCells_new (P := P) W (ρ.t 116) (Array.replicate 256 (.bool false)) (Lib.setCells [32]) (by rw [Lib.setCells_size]; exact hi116) (by rw [Lib.setCells_size, Array.size_replicate]) (Lib.setCells_one _)
  have hsz := Lib.setCells_size [32]
  generalize nbs = N at *
  have t3 := L.t3; have a3 := L.a3; have z3 := L.z3; have v3 := L.v3
  have t4 := L.t4; have a4 := L.a4; have z4 := L.z4; have v4 := L.v4
  have t5 := L.t5; have a5 := L.a5; have z5 := L.z5; have v5 := L.v5
  have t9 := L.t9; have a9 := L.a9; have z9 := L.z9; have v9 := L.v9
  have t21 := L.t21; have a21 := L.a21; have z21 := L.z21; have v21 := L.v21
  have t116 := L.t116
  have e226 : ∀ args w, (callFunc (ρ.f 226) args).run P w = .ok (.enter (ρ.f 226) args) w := enters_of L.f226 (by kernel_rfl) rfl
  have e227 : ∀ args w, (callFunc (ρ.f 227) args).run P w = .ok (.enter (ρ.f 227) args) w := enters_of L.f227 (by kernel_rfl) rfl
  have e152 : ∀ args w, (callFunc (ρ.f 152) args).run P w = .ok (.enter (ρ.f 152) args) w := enters_of L.f152 (by kernel_rfl) rfl
  go_enter L.f153, Body.n153_ntmps ρ
  go_upto_if 26 with (go_at_fn (ρ.f 226); refine (hU _ _).mono ?_; rintro e w' ⟨rfl, hw⟩; rw [hw]; clear hw)
  go_cut [24] (fun s24 wx => s24 = .string s ∧ Below w.heap.size w wx)
  case first =>
    by_cases h8 : (8 : Int) < (s.size : Int)
    · have d8 : decide ((8 : Int) < (s.size : Int)) = true := decide_eq_true h8
      go_wp2_with (go_at_fn (ρ.f 227); refine (hM _).mono ?_; rintro e w' ⟨rfl, hw⟩; rw [hw]; clear hw)
      have hsc1 : (storeCells ⟨w.heap.size + 1, 0, none⟩ (Lib.setCells [32]).toList 0).run P ((w.alloc (.cells (Lib.setCells [32]) (ρ.t 116))).alloc (.cells (Array.replicate 256 (.bool false)) (ρ.t 116))) = .ok () ((w.alloc (.cells (Lib.setCells [32]) (ρ.t 116))).alloc (.cells (Lib.setCells [32]) (ρ.t 116))) := by
        have h := hsc (w.alloc (.cells (Lib.setCells [32]) (ρ.t 116)))
        simpa using h
      simp only [L.z116, Result.andThen, ↓reduceIte, hsc1]
      rw [Oper.upon_skip]
      go_wp2_with fail
      go_meet
      exact ⟨rfl, ((Below.refl _ w).alloc (Nat.le_refl _) _).alloc (by simp) _⟩
    · have d8 : decide ((8 : Int) < (s.size : Int)) = false := decide_eq_false h8
      go_wp2_with fail
      go_meet
      exact ⟨rfl, Below.refl _ _⟩
  case rest =>
    obtain ⟨rfl, hb⟩ := hcut
    clear hM hU hsc hsz hv116 hi116
    go_wp2_with fail
    go_loopg [] s.size (fun gf wx => ∃ (pos : Nat), wx.heap[wc.heap.size]? = some (.stringIter s pos) ∧ Below wc.heap.size wc wx ∧ Hid ((runesAt s pos).any spR = (runes s.data.toList).any spR) ∧ s.size ≤ pos + gf)
    case atStart => exact ⟨0, World.iter_heap wc s 0, below_iter _ _ _, Lib.hid (by rw [hrun.out]), by omega⟩
    case round =>
      obtain ⟨pos, hit, hbw, HA, hg⟩ := hrel
      by_cases hp : pos < s.size
      · obtain ⟨g', rfl⟩ : ∃ g', gk = g' + 1 := ⟨gk - 1, by omega⟩
        have hnx : ∀ ty, (Instr.next (.pointer (some ⟨wc.heap.size, 0, none⟩)) true ty).run P wr = _ := fun ty => Lib.run_next_any_at wr wc.heap.size s pos ty hit hp
        have hwd := Lib.decode_width_pos s pos hp
        have hc := HA.out
        rw [runesAt_step s pos hp, List.any_cons, ← iR_sp] at hc
        have hit2 := Lib.iterAt_heap wr wc.heap.size s pos (pos + (Utf8.decode s pos).2) hit
        have hbw2 := Lib.below_iterAt hbw (k := wc.heap.size) (Nat.le_refl _) s (pos + (Utf8.decode s pos).2)
        have hle := Lib.rune_le s pos
        have hvl := rune_valid s pos
        have cI := hIR (Utf8.decode s pos).1 hle hvl
        clear hIR hle hvl
        generalize (Utf8.decode s pos).2 = K at *
        generalize (Utf8.decode s pos).1 = R at *
        generalize wr.iterAt wc.heap.size s (pos + K) = W at *
        have cI1 := cI W
        clear HA cI
        generalize iR R = z at *
        by_cases hz : 0 ≤ z
        · have HT : Hid ((runes s.data.toList).any spR = true) := Lib.hid (by rw [← hc, decide_eq_true hz]; rfl)
          clear hc
          go_wp2_with (go_at_fn (ρ.f 152); refine cI1.mono ?_; rintro e w2 ⟨rfl, hb2⟩)
          go_ret
          exact any_post rfl (by rw [HT.out]; simp) (below_trans hb (below_grow hbw2 hbw2.size hb2))
        · have HA2 : Hid ((runesAt s (pos + K)).any spR = (runes s.data.toList).any spR) := by rw [decide_eq_false hz, Bool.false_or] at hc; exact Lib.hid hc
          have hz2 : ¬ (0 : Int) ≤ z := hz
          clear hc
          go_wp2_with (go_at_fn (ρ.f 152); refine cI1.mono ?_; rintro e w2 ⟨rfl, hb2⟩)
          go_roundg g'
          case measure => omega
          case rel => exact ⟨pos + K, (hb2.block _ (heap_lt hit2)).trans hit2, below_grow hbw2 hbw2.size hb2, HA2, by omega⟩
      · have hnx : ∀ ty, (Instr.next (.pointer (some ⟨wc.heap.size, 0, none⟩)) true ty).run P wr = _ := fun ty => Lib.run_next_end_at wr wc.heap.size s pos ty hit hp
        have HT : Hid ((runes s.data.toList).any spR = false) := Lib.hid (by rw [← HA.out, runesAt_end s pos hp]; rfl)
        clear HA hIR
        go_wp2_with fail
        go_ret
        exact any_post rfl (by rw [HT.out]; rfl) (below_trans hb hbw)
end
theorem info115 : (Tryd.prog.info? 115).map (fun i => (i.zero, i.size)) = some (some (.agg (Array.replicate 256 (.bool false))), 256) := by kernel_rfl
set_option maxHeartbeats 1000000 in
theorem contains_nbs (s : ByteArray) (w : World) (hs : s.size < 4294967281) : Calls Tryd.prog 72 #[.string s, .string nbs] w fun e w' => e = .returned (.bool ((runes s.data.toList).any spR)) ∧ Below w.heap.size w w' := by
  have hz : ∀ w, (zeroValue 115).run Tryd.prog w = .ok (.agg (Array.replicate 256 (.bool false))) w := fun w => by
    obtain ⟨i, hi, he⟩ := Option.map_eq_some_iff.1 info115
    simp only [Prod.mk.injEq] at he
    simp [zeroValue, typeInfo, hi, he.1]
  have hi : (Tryd.prog.info? 115).map (·.size) = some 256 := by
    obtain ⟨i, hi, he⟩ := Option.map_eq_some_iff.1 info115
    simp only [Prod.mk.injEq] at he
    rw [hi]; simp [he.2]
  have c : Calls Tryd.prog 100 #[.string s, .string nbs] w fun e w' => ∃ k : Int, e = .returned (.int .i64 k) ∧ decide (0 ≤ k) = (runes s.data.toList).any spR ∧ Below w.heap.size w w' :=
    indexAny_nbs Tryd.lays153 hz hi s w hs (fun c h1 h2 W => irune_any c h1 h2 W)
  generalize (runes s.data.toList).any spR = Z at *
  generalize nbs = N at *
  clear hz hi
  go_enter Tryd.func72, Tryd.ntmps72
  go_wp2_with fail
  refine c.mono ?_
  rintro e w1 ⟨k, rfl, hk, hb⟩
  have HK := Lib.hid hk
  clear hk
  go_wp2_with fail
  go_ret
  exact ⟨ret_bool HK.out, hb⟩
end Go.Proofs.YtheemefggkcfbaaDoor
