/- The list of all styles in the reference, walked. -/
import Derived.Test.YtjghleeobdbkgaaGet
namespace Go.Proofs.Ytjghleeobdbkgaa
open Go.RowKit Pl
set_option linter.unusedVariables false
def sv (s : St) : List Value := [.int .u8 s.1, .bool s.2.1, .bool s.2.2]
def svs (l : List St) : List Value := l.flatMap sv
def stn (k : Nat) : St := std (k : Int)
def styN (k : Nat) : List St := (List.range k).map stn
theorem stys_eq : styN 16 = stys := by decide
theorem styN_succ (k : Nat) : svs (styN (k + 1)) = svs (styN k) ++ sv (stn k) := by simp [styN, svs, List.range_succ]
theorem info24 : (Try.prog.info? 24).map (fun i => (i.zero, i.size, i.bytes)) = some (some (.agg #[.int .u8 0, .bool false, .bool false]), 3, 3) := by kernel_rfl
theorem info26 : (Try.prog.info? 26).map (fun i => (i.zero, i.size, i.bytes)) = some (some (.agg #[.int .u8 0, .int .i64 0, .int .i64 0, .int .u8 0, .bool false, .bool false]), 6, 32) := by kernel_rfl
/-- A slice that the call made: it owns these cells. -/
def Made (B : Nat) (E : TypeId) (size n : Nat) (xs : List Value) (w : World) (e : Ending) (w' : World) : Prop :=
  ∃ v, e = .returned v ∧ w'.ownsRow B E size v n xs ∧ Below w.heap.size w w'
theorem cells_new (W : World) (l : List Value) (T : TypeId) {b : Nat} (hb : b = W.heap.size) : ∀ j u, l[j]? = some u → (W.alloc (.cells l.toArray T)).cell? ((⟨b, 0, none⟩ : Addr).add j) = some u := by
  subst hb
  intro j u hu
  have e : (⟨W.heap.size, 0, none⟩ : Addr).add j = ⟨W.heap.size, j, none⟩ := by unfold Addr.add; split <;> simp_all
  rw [e, World.cell?_alloc_new]
  simpa using hu
theorem app_step {B : Nat} {E : TypeId} {size k : Nat} {v : Value} {xs : List Value} {w W1 w' : World} (hown : W1.ownsRow B E size v k xs) (hB : Below B w W1) (hz : B ≤ W1.heap.size) (hg : W1.grownBy w' v.ownBlock) : Below B w w' :=
  hB.grown hg hz (fun j hj => (hown.lt j hj).1)
theorem stn_lo {k : Nat} (h : k < 14) : sv (stn k) = [.int .u8 ((k : Int) / 2), .bool false, .bool ((k : Int) % 2 == 1)] := by
  have : ¬ (14 : Int) ≤ k := by omega
  simp [sv, stn, std, this]
theorem stn_hi {k : Nat} (h : 14 ≤ k) (h2 : k < 16) : sv (stn k) = [.int .u8 0, .bool true, .bool ((k : Int) % 2 == 1)] := by
  have h1 : k = 14 ∨ k = 15 := by omega
  rcases h1 with rfl | rfl
  all_goals simp [sv, stn, std]
theorem sty_step {B k : Nat} {v v' : Value} {w W1 w' : World} {n : List Value} (he : sv (stn k) = n) (hown : W1.ownsRow B 24 3 v k (svs (styN k))) (hB : Below B w W1) (hz : B ≤ W1.heap.size)
    (h1 : w'.ownsRow B 24 3 v' (k + 1) (svs (styN k) ++ n)) (hg : W1.grownBy w' v.ownBlock) : w'.ownsRow B 24 3 v' (k + 1) (svs (styN (k + 1))) ∧ Below B w w' := by
  rw [styN_succ, he]; exact ⟨h1, app_step hown hB hz hg⟩
set_option maxHeartbeats 2000000 in
theorem styles_any (w : World) : Calls Try.prog 33 #[] w (Made w.heap.size 24 3 16 (svs stys) w) := by
  obtain ⟨i0, hi, hz0, hz1, hz2⟩ := info_parts info24
  go_enter Try.func33, Try.ntmps33
  go_wp2_with fail
  go_loopw [1, 4] (fun v i wr => ∃ k : Nat, k ≤ 16 ∧ i = .int .i64 k ∧ wr.ownsRow w.heap.size 24 3 v k (svs (styN k)) ∧ Below w.heap.size w wr) (fun _ i _ => 16 - (intOf i).toNat)
  case atStart => exact ⟨0, by omega, rfl, World.ownsRow_nil _ _ _ _, Below.refl _ _⟩
  case round =>
    obtain ⟨k, hk, rfl, hown, hB⟩ := hrel
    have hsz := hB.size
    by_cases hlt : k < 16
    · by_cases h14 : k < 14
      · go_wp2_with (at_builtin; refine wpList_append_own _ rfl _ _ 52 rfl w.heap.size 24 i0 _ 3 3 Try.underlying52 hi hz0 hz1 hz2 rfl (by decide) _ _ _ rfl ((hown.alloc _).alloc _) ⟨wr.heap.size + 1, 0, none⟩ 1 1 [.int .u8 ((k : Int) / 2), .bool false, .bool ((k : Int) % 2 == 1)] rfl rfl ?c1 ?c2 ?c3 ?c4 ?c5 ?_)
        case c1 => exact cells_new _ _ _ (by simp)
        case c2 => simp [Value.oneCell']
        case c3 => unfold maxLen; omega
        case c4 => omega
        case c5 => simp; omega
        · intro v' w1 hown' hgrow _
          have R := sty_step (stn_lo h14) ((hown.alloc _).alloc _) ((hB.alloc hsz _).alloc (by simp; omega) _) (by simp; omega) hown' hgrow
          clear hown' hgrow hown hB
          go_wp2_with fail
          go_roundw
          case rel => exact ⟨k + 1, by omega, by go_num, R.1, R.2⟩
          case measure => simp [intOf]; omega
      · go_wp2_with (at_builtin; refine wpList_append_own _ rfl _ _ 52 rfl w.heap.size 24 i0 _ 3 3 Try.underlying52 hi hz0 hz1 hz2 rfl (by decide) _ _ _ rfl ((hown.alloc _).alloc _) ⟨wr.heap.size + 1, 0, none⟩ 1 1 [.int .u8 0, .bool true, .bool ((k : Int) % 2 == 1)] rfl rfl ?d1 ?d2 ?d3 ?d4 ?d5 ?_)
        case d1 => exact cells_new _ _ _ (by simp)
        case d2 => simp [Value.oneCell']
        case d3 => unfold maxLen; omega
        case d4 => omega
        case d5 => simp; omega
        · intro v' w1 hown' hgrow _
          have R := sty_step (stn_hi (by omega) hlt) ((hown.alloc _).alloc _) ((hB.alloc hsz _).alloc (by simp; omega) _) (by simp; omega) hown' hgrow
          clear hown' hgrow hown hB
          go_wp2_with fail
          go_roundw
          case rel => exact ⟨k + 1, by omega, by go_num, R.1, R.2⟩
          case measure => simp [intOf]; omega
    · obtain rfl : k = 16 := by omega
      rw [stys_eq] at hown
      go_wp2_with fail
      go_ret
      exact ⟨_, rfl, hown, hB⟩
end Go.Proofs.Ytjghleeobdbkgaa
