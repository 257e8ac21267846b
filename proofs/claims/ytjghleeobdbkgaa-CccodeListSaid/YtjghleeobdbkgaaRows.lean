/-
  No cell of these rows narrows 'for every input' (looked for: loops, veiled, ifaces, maps, wideKeys, modest, calm, conditions, laid).
  DERIVED. THE GIVEN ROWS OF THIS SEAT. 6 by the template 'for every input the law returns true; each argument reads behind the call as it read before'; 0 by the template 'total and deterministic' (their statements: YtjghleeobdbkgaaTotals.lean).
  GIVEN WITH THE SEED: the statements are not yours to turn. If you find one false, say at which input.
  Laid BY PROGRAM, IN A SANDBOX (cutbox-rows.mjs): the forced cells as the released guide's own fill.sh prints them over the translation bd7d9da0ec49e635… (all of the seat's roots in one cut). By AI agents, Wed Nov 11 2026. No macro, syntax, notation, axiom, sorry.
-/
import Derived.Test.YtjghleeobdbkgaaChecked
import GoSem.Claim
import GoSem.ClaimJoined
import GoSem.ClaimMapViews
import Derived.JoinedTies
import Derived.KernelRfl
namespace Go.Proofs.Ytjghleeobdbkgaa
/- THE CELL 'sum', in the pinned program and in every row, IS THE sha256 OF THE DUMP (.gsa) THAT YtjghleeobdbkgaaProg.lean LOADS. Nothing in Lean hashes anything: it is a label: what it is worth is what the hold of that sum in a sandbox is worth. -/
noncomputable def Try.pinned : Pinned := { name := "ytjghleeobdbkgaa", sum := "bd7d9da0ec49e6352856704f1f1c073a09c8d475928d2f443d126b8d3d6a95aa", checked := Try.checked }
namespace Rows
def none {H : Type} : Left H := { results := [], args := [] }

/-- 'captionerlaw27.CccodeChecks': WHATEVER THE INPUT: true; the input reads as it did. -/
def cccodeChecksSpec : ChangeSpec := { name := "cccodeChecks", fn := fun _ => fun
  | [d] => { results := [.lit (.bool true)], args := [d] }
  | _ => none }
def cccodeChecksRow : OpenClaim := { program := "ytjghleeobdbkgaa", sum := "bd7d9da0ec49e6352856704f1f1c073a09c8d475928d2f443d126b8d3d6a95aa", func := "captioner/captionerlaw27.CccodeChecks", spec := "cccodeChecks", apart := false }
def CccodeChecksSaid : Prop := cccodeChecksRow.holds Try.pinned (OpenSpec.ofChange cccodeChecksSpec)

/-- ITS FALSE NEIGHBOUR: 'it returns false'. Refute it at one input. -/
def cccodeChecksWrong : ChangeSpec := { name := "cccodeChecks", fn := fun _ => fun
  | [d] => { results := [.lit (.bool false)], args := [d] }
  | _ => none }
def CccodeChecksWrongFalsely : Prop := cccodeChecksRow.holds Try.pinned (OpenSpec.ofChange cccodeChecksWrong)

/-- 'captionerlaw27.CccodePuts': WHATEVER THE INPUT: true; the input reads as it did. -/
def cccodePutsSpec : ChangeSpec := { name := "cccodePuts", fn := fun _ => fun
  | [d] => { results := [.lit (.bool true)], args := [d] }
  | _ => none }
def cccodePutsRow : OpenClaim := { program := "ytjghleeobdbkgaa", sum := "bd7d9da0ec49e6352856704f1f1c073a09c8d475928d2f443d126b8d3d6a95aa", func := "captioner/captionerlaw27.CccodePuts", spec := "cccodePuts", apart := false }
def CccodePutsSaid : Prop := cccodePutsRow.holds Try.pinned (OpenSpec.ofChange cccodePutsSpec)

/-- ITS FALSE NEIGHBOUR: 'it returns false'. Refute it at one input. -/
def cccodePutsWrong : ChangeSpec := { name := "cccodePuts", fn := fun _ => fun
  | [d] => { results := [.lit (.bool false)], args := [d] }
  | _ => none }
def CccodePutsWrongFalsely : Prop := cccodePutsRow.holds Try.pinned (OpenSpec.ofChange cccodePutsWrong)

/-- 'captionerlaw27.CccodeGets': WHATEVER THE INPUT: true; the input reads as it did. -/
def cccodeGetsSpec : ChangeSpec := { name := "cccodeGets", fn := fun _ => fun
  | [d1, d2] => { results := [.lit (.bool true)], args := [d1, d2] }
  | _ => none }
def cccodeGetsRow : OpenClaim := { program := "ytjghleeobdbkgaa", sum := "bd7d9da0ec49e6352856704f1f1c073a09c8d475928d2f443d126b8d3d6a95aa", func := "captioner/captionerlaw27.CccodeGets", spec := "cccodeGets", apart := false }
def CccodeGetsSaid : Prop := cccodeGetsRow.holds Try.pinned (OpenSpec.ofChange cccodeGetsSpec)

/-- ITS FALSE NEIGHBOUR: 'it returns false'. Refute it at one input. -/
def cccodeGetsWrong : ChangeSpec := { name := "cccodeGets", fn := fun _ => fun
  | [d1, d2] => { results := [.lit (.bool false)], args := [d1, d2] }
  | _ => none }
def CccodeGetsWrongFalsely : Prop := cccodeGetsRow.holds Try.pinned (OpenSpec.ofChange cccodeGetsWrong)

/-- 'captionerlaw27.CccodeBack': WHATEVER THE INPUT: true; the input reads as it did. -/
def cccodeBackSpec : ChangeSpec := { name := "cccodeBack", fn := fun _ => fun
  | [d1, d2, d3] => { results := [.lit (.bool true)], args := [d1, d2, d3] }
  | _ => none }
def cccodeBackRow : OpenClaim := { program := "ytjghleeobdbkgaa", sum := "bd7d9da0ec49e6352856704f1f1c073a09c8d475928d2f443d126b8d3d6a95aa", func := "captioner/captionerlaw27.CccodeBack", spec := "cccodeBack", apart := false }
def CccodeBackSaid : Prop := cccodeBackRow.holds Try.pinned (OpenSpec.ofChange cccodeBackSpec)

/-- ITS FALSE NEIGHBOUR: 'it returns false'. Refute it at one input. -/
def cccodeBackWrong : ChangeSpec := { name := "cccodeBack", fn := fun _ => fun
  | [d1, d2, d3] => { results := [.lit (.bool false)], args := [d1, d2, d3] }
  | _ => none }
def CccodeBackWrongFalsely : Prop := cccodeBackRow.holds Try.pinned (OpenSpec.ofChange cccodeBackWrong)

/-- 'captionerlaw27.CccodeList': WHATEVER THE INPUT: true; the input reads as it did. -/
def cccodeListSpec : ChangeSpec := { name := "cccodeList", fn := fun _ => fun
  | [d] => { results := [.lit (.bool true)], args := [d] }
  | _ => none }
def cccodeListRow : OpenClaim := { program := "ytjghleeobdbkgaa", sum := "bd7d9da0ec49e6352856704f1f1c073a09c8d475928d2f443d126b8d3d6a95aa", func := "captioner/captionerlaw27.CccodeList", spec := "cccodeList", apart := false }
def CccodeListSaid : Prop := cccodeListRow.holds Try.pinned (OpenSpec.ofChange cccodeListSpec)

/-- ITS FALSE NEIGHBOUR: 'it returns false'. Refute it at one input. -/
def cccodeListWrong : ChangeSpec := { name := "cccodeList", fn := fun _ => fun
  | [d] => { results := [.lit (.bool false)], args := [d] }
  | _ => none }
def CccodeListWrongFalsely : Prop := cccodeListRow.holds Try.pinned (OpenSpec.ofChange cccodeListWrong)

/-- 'captionerlaw27.CccodeOrder': WHATEVER THE INPUT: true; the input reads as it did. -/
def cccodeOrderSpec : ChangeSpec := { name := "cccodeOrder", fn := fun _ => fun
  | [d] => { results := [.lit (.bool true)], args := [d] }
  | _ => none }
def cccodeOrderRow : OpenClaim := { program := "ytjghleeobdbkgaa", sum := "bd7d9da0ec49e6352856704f1f1c073a09c8d475928d2f443d126b8d3d6a95aa", func := "captioner/captionerlaw27.CccodeOrder", spec := "cccodeOrder", apart := false }
def CccodeOrderSaid : Prop := cccodeOrderRow.holds Try.pinned (OpenSpec.ofChange cccodeOrderSpec)

/-- ITS FALSE NEIGHBOUR: 'it returns false'. Refute it at one input. -/
def cccodeOrderWrong : ChangeSpec := { name := "cccodeOrder", fn := fun _ => fun
  | [d] => { results := [.lit (.bool false)], args := [d] }
  | _ => none }
def CccodeOrderWrongFalsely : Prop := cccodeOrderRow.holds Try.pinned (OpenSpec.ofChange cccodeOrderWrong)

/- THE SECOND FORM. 'bulk': how many values and letters a reading holds, each counted each time it is reached (what is shared counts as often as it is met; a slice's spare places count too). A statement '..UptoSaid' is the law's where the arguments, and the package variables that the reading takes, are together of bulk at most 1048576: NARROWER than '..Said'. Prove '..Said' where nothing that the law and all that it calls make is longer than what came in: it says more and counts as full. Else prove '..UptoSaid'. A law counts once. -/
mutual
def uptoBulk {H : Type} : DataW H → Nat
  | .lit (.string bytes) => bytes.length + 1
  | .lit _ => 1
  | .nil => 1
  | .ptr d => uptoBulk d + 1
  | .slice elems spare => uptoBulkAll elems + uptoBulkAll spare + 1
  | .agg parts => uptoBulkAll parts + 1
  | .iface _ d => uptoBulk d + 1
  | .map entries => uptoBulkEntries entries + 1
  | .held _ => 1
def uptoBulkAll {H : Type} : List (DataW H) → Nat
  | [] => 0
  | d :: r => uptoBulk d + uptoBulkAll r
def uptoBulkEntries {H : Type} : List (Lit × DataW H) → Nat
  | [] => 0
  | x :: r => uptoBulkEntry x + uptoBulkEntries r
def uptoBulkEntry {H : Type} : Lit × DataW H → Nat
  | (.string bytes, d) => bytes.length + uptoBulk d + 1
  | (_, d) => uptoBulk d + 1
 end
def uptoSmall : (H : Type) → List (DataW H) → Bool := fun _ ds => decide (uptoBulkAll ds ≤ 1048576)
def OpenSpec.upto (s : _root_.Go.ChangeSpec) : _root_.Go.OpenSpec := { _root_.Go.OpenSpec.ofChange s with cond := some uptoSmall }

/-- 'captionerlaw27.CccodeChecks', WHERE WHAT IT READS IS OF BULK AT MOST 1048576: true; the input reads as it did. -/
def cccodeChecksUptoRow : OpenClaim := { program := "ytjghleeobdbkgaa", sum := "bd7d9da0ec49e6352856704f1f1c073a09c8d475928d2f443d126b8d3d6a95aa", func := "captioner/captionerlaw27.CccodeChecks", spec := "cccodeChecks", apart := false, narrowed := true }
def CccodeChecksUptoSaid : Prop := cccodeChecksUptoRow.holds Try.pinned (OpenSpec.upto cccodeChecksSpec)

/-- 'captionerlaw27.CccodePuts', WHERE WHAT IT READS IS OF BULK AT MOST 1048576: true; the input reads as it did. -/
def cccodePutsUptoRow : OpenClaim := { program := "ytjghleeobdbkgaa", sum := "bd7d9da0ec49e6352856704f1f1c073a09c8d475928d2f443d126b8d3d6a95aa", func := "captioner/captionerlaw27.CccodePuts", spec := "cccodePuts", apart := false, narrowed := true }
def CccodePutsUptoSaid : Prop := cccodePutsUptoRow.holds Try.pinned (OpenSpec.upto cccodePutsSpec)

/-- 'captionerlaw27.CccodeGets', WHERE WHAT IT READS IS OF BULK AT MOST 1048576: true; the input reads as it did. -/
def cccodeGetsUptoRow : OpenClaim := { program := "ytjghleeobdbkgaa", sum := "bd7d9da0ec49e6352856704f1f1c073a09c8d475928d2f443d126b8d3d6a95aa", func := "captioner/captionerlaw27.CccodeGets", spec := "cccodeGets", apart := false, narrowed := true }
def CccodeGetsUptoSaid : Prop := cccodeGetsUptoRow.holds Try.pinned (OpenSpec.upto cccodeGetsSpec)

/-- 'captionerlaw27.CccodeBack', WHERE WHAT IT READS IS OF BULK AT MOST 1048576: true; the input reads as it did. -/
def cccodeBackUptoRow : OpenClaim := { program := "ytjghleeobdbkgaa", sum := "bd7d9da0ec49e6352856704f1f1c073a09c8d475928d2f443d126b8d3d6a95aa", func := "captioner/captionerlaw27.CccodeBack", spec := "cccodeBack", apart := false, narrowed := true }
def CccodeBackUptoSaid : Prop := cccodeBackUptoRow.holds Try.pinned (OpenSpec.upto cccodeBackSpec)

/-- 'captionerlaw27.CccodeList', WHERE WHAT IT READS IS OF BULK AT MOST 1048576: true; the input reads as it did. -/
def cccodeListUptoRow : OpenClaim := { program := "ytjghleeobdbkgaa", sum := "bd7d9da0ec49e6352856704f1f1c073a09c8d475928d2f443d126b8d3d6a95aa", func := "captioner/captionerlaw27.CccodeList", spec := "cccodeList", apart := false, narrowed := true }
def CccodeListUptoSaid : Prop := cccodeListUptoRow.holds Try.pinned (OpenSpec.upto cccodeListSpec)

/-- 'captionerlaw27.CccodeOrder', WHERE WHAT IT READS IS OF BULK AT MOST 1048576: true; the input reads as it did. -/
def cccodeOrderUptoRow : OpenClaim := { program := "ytjghleeobdbkgaa", sum := "bd7d9da0ec49e6352856704f1f1c073a09c8d475928d2f443d126b8d3d6a95aa", func := "captioner/captionerlaw27.CccodeOrder", spec := "cccodeOrder", apart := false, narrowed := true }
def CccodeOrderUptoSaid : Prop := cccodeOrderUptoRow.holds Try.pinned (OpenSpec.upto cccodeOrderSpec)

end Rows
end Go.Proofs.Ytjghleeobdbkgaa
