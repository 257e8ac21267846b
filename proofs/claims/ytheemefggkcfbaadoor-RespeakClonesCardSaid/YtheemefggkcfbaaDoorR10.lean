import Derived.Test.YtheemefggkcfbaaDoorR9
import Derived.Shelf.Strings.AsciiSet
namespace Go.Proofs.YtheemefggkcfbaaDoor
open Go Go.Lib Go.RowKit Go.Shelf Go.Proofs
section
variable {P : Program} {ρ : Ren}
set_option maxHeartbeats 4000000 in
set_option maxRecDepth 1000000 in
/-- The set of characters that are not all plain ones. -/
theorem make_no (L : Lays.n227 P ρ) (hv116 : ∀ w, (zeroValue (ρ.t 116)).run P w = .ok (.agg (Array.replicate 256 (.bool false))) w) (hi116 : (P.info? (ρ.t 116)).map (·.size) = some 256) (w : World) :
    Calls P (ρ.f 227) #[.string nbs] w fun e w' => e = .returned (.tuple #[.agg (Lib.setCells [32]), .bool false]) ∧ w' = w.alloc (.cells (Lib.setCells [32]) (ρ.t 116)) := by
  have t3 := L.t3; have a3 := L.a3; have z3 := L.z3; have v3 := L.v3
  have t4 := L.t4; have a4 := L.a4; have z4 := L.z4; have v4 := L.v4
  have t5 := L.t5; have a5 := L.a5; have z5 := L.z5; have v5 := L.v5
  have t9 := L.t9; have a9 := L.a9; have z9 := L.z9; have v9 := L.v9
  have t116 := L.t116
  have hS : nbs.size = 3 := rfl
  have i0 : ∀ W, (Instr.index (ρ.t 9) (.string nbs) (.int .i64 0)).run P W = .ok (.int .u8 32) W := fun W => by
    rw [run_index_string W (ρ.t 9) nbs .i64 0 L.t9, dif_pos ⟨by omega, by decide⟩]; rfl
  have i1 : ∀ W, (Instr.index (ρ.t 9) (.string nbs) (.int .i64 1)).run P W = .ok (.int .u8 194) W := fun W => by
    rw [run_index_string W (ρ.t 9) nbs .i64 1 L.t9, dif_pos ⟨by omega, by decide⟩]; rfl
  generalize nbs = S at *
  have HS := Lib.hid hS
  go_enter L.f227, Body.n227_ntmps ρ
  go_wp2
  rw [← Lib.setCells_nil]
  go_loopw [4] (fun s4 wx => (s4 = .int .i64 0 ∧ wx = w.alloc (.cells (Lib.setCells []) (ρ.t 116))) ∨ (s4 = .int .i64 1 ∧ wx = w.alloc (.cells (Lib.setCells [32]) (ρ.t 116)))) (fun v _ => 3 - (intOf v).toNat)
  case atStart => exact Or.inl ⟨rfl, rfl⟩
  case round =>
    obtain ⟨rfl, rfl⟩ | ⟨rfl, rfl⟩ := hrel
    · have hsz := Lib.setCells_size []
      have HW : Hid ((Lib.setCells []).setIfInBounds 32 (.bool true) = Lib.setCells [32]) := Lib.hid (Lib.setCells_snoc [] 32)
      go_wp2
      go_roundw
      case rel => exact Or.inr ⟨rfl, by rw [HW.out]⟩
      case measure => simp [intOf]
    · have hld := run_loadVar_new (P := P) w (ρ.t 116) (Lib.setCells [32]) 256 (ρ.t 4) L.t116 (by rw [Lib.setCells_size]; exact hi116)
      have hsz := Lib.setCells_size [32]
      have hlc := run_loadCellsFrom_new (P := P) w (ρ.t 116) (Lib.setCells [32]) 256 hsz
      have hsc := run_storeCells_new (P := P) w (ρ.t 116) (Lib.setCells [32]) (Lib.setCells [32]) (by rw [hsz]; exact hi116) rfl (Lib.setCells_one _)
      go_wp2
      simp only [L.a116, L.z116, Result.andThen, ↓reduceIte, hlc]
      rw [Oper.upon_value]
      go_wp2
      simp only [L.z116, Result.andThen, ↓reduceIte, hsc]
      rw [Oper.upon_skip]
      go_wp2
      (try simp only [Exit.inBlock, Exit.then])
      refine bodyPost_ret (v := .tuple #[.agg (Lib.setCells [32]), .bool false]) ?_ rfl ⟨rfl, rfl⟩
      rw [results_cell_tmp rfl]
      simp [asAddr, Result.andThen, hld]
end
end Go.Proofs.YtheemefggkcfbaaDoor
