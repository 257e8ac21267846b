import Derived.Test.YtheemefggkcfbaaDoorMO
import Derived.Test.YtheemefggkcfbaaDoorMB
import Derived.Deep.DeepWitnessRowRef
import Derived.Lib.LaidU8
import Derived.Lib.LaidTab
/- The four tables that the row of RespeakOrder lists, and a world that holds them. -/
namespace Go.Proofs.YtheemefggkcfbaaDoor
open Go.ChangeShapes Go.WideShapes Go.ChangeAt Go.RowKit Go.Lib Go.Shelf
theorem space_eq {H : Type} : Rows.laid_strings_asciiSpace (H := H) = Lib.tabData .u8 Lib.asciiSpaceTab := by kernel_rfl
theorem white_eq : Rows.laid_unicode_White_Space (H := Unit) = Lib.whiteData := by kernel_rfl
theorem whiteExtra : WhiteExtra Tryd.prog Tryd.lays157_ren := ⟨by kernel_rfl, by kernel_rfl, by kernel_rfl, by kernel_rfl, by kernel_rfl, by kernel_rfl, by kernel_rfl, by kernel_rfl⟩
theorem tabs_of {W : World} (h : laidMet Tryd.prog Rows.respeakOrderRow.laid W) : Lib.TabIs Tryd.prog W "strings.asciiSpace" .u8 Lib.asciiSpaceTab ∧ Lib.WhiteTab 3 W := by
  have r1 := Lib.laidMet.reads h (n := "unicode.White_Space") (d := Rows.laid_unicode_White_Space) (by simp [Rows.respeakOrderRow])
  rw [white_eq] at r1
  refine ⟨?_, whiteTab_of_reads { Tryd.lays157 with } whiteExtra r1⟩
  have r2 := Lib.laidMet.reads h (n := "strings.asciiSpace") (d := Rows.laid_strings_asciiSpace) (by simp [Rows.respeakOrderRow])
  rw [space_eq] at r2
  obtain ⟨g, t, cs, fuel, p, hg, hty, hvar, hd⟩ := r2
  obtain rfl := Option.some.inj ((show Tryd.prog.globalNamed "strings.asciiSpace" = some 0 by kernel_rfl).symm.trans hg)
  obtain rfl := Option.some.inj ((show (Tryd.prog.globals[0]?).map (·.type) = some 107 by kernel_rfl).symm.trans hty)
  unfold Lib.TabIs
  rw [hvar, ← Lib.cells_of_tab Tryd.underlying107 Tryd.underlying5 cell5 (by kernel_rfl) hd]
noncomputable def laidWorld4 (os : Os) : World :=
  let N := (World.settled Tryd.prog os).heap.size
  let w0 := World.holding Tryd.prog os ⟨#[.cells (Lib.whiteT.map fun (z : Nat) => Value.int .u16 (z : Int)).toArray (Tryd.lays157_ren.t 198), .cells #[.slice (some ⟨N, 0, none⟩) 7 7, .slice none 0 0, .int .i64 2] (Tryd.lays157_ren.t 196)], #[], []⟩
  let put (h : Array Obj) (g : Nat) (cs : Array Value) : Array Obj := h.modify g fun
    | .cells _ t frozen => .cells cs t frozen
    | o => o
  let h0 := put w0.heap 0 (Lib.asciiSpaceTab.map fun z => Value.int .u8 z).toArray
  let h1 := put h0 1 (Lib.firstTab.map fun z => Value.int .u8 z).toArray
  let h2 := put h1 2 ((List.range 16).flatMap fun i => [Value.int .u8 (Lib.accLo i), Value.int .u8 (Lib.accHi i)]).toArray
  let h3 := put h2 3 #[.pointer (some ⟨N + 1, 0, none⟩)]
  { w0 with heap := h3 }
set_option maxRecDepth 100000 in
theorem met4 (os : Os) (args : Array Value) : laidMet Tryd.prog Rows.respeakOrderRow.laid ((laidWorld4 os).forCall (fun _ _ => 0) ⟨#[], args, []⟩).memory :=
  laidMet_of_run' 10 (by kernel_rfl) (by kernel_rfl)
theorem vars4 (os : Os) (args : Array Value) : ((laidWorld4 os).forCall (fun _ _ => 0) ⟨#[], args, []⟩).variablesRefB Tryd.prog = true := by kernel_rfl
theorem rest4 (os : Os) (args : Array Value) : (((laidWorld4 os).forCall (fun _ _ => 0) ⟨#[], args, []⟩).heap.toList.drop Tryd.prog.globals.size).take ((begin Tryd.prog (fun _ _ => 0) default).world.heap.size - Tryd.prog.globals.size) =
      (begin Tryd.prog (fun _ _ => 0) default).world.heap.toList.drop Tryd.prog.globals.size := by kernel_rfl
end Go.Proofs.YtheemefggkcfbaaDoor
