/-
  No cell of these rows narrows 'for every input' (looked for: loops, veiled, ifaces, maps, wideKeys, modest, calm, conditions, laid).
  DERIVED. THE GIVEN ROWS OF THIS SEAT. 5 by the template 'for every input the law returns true; each argument reads behind the call as it read before'; 0 by the template 'total and deterministic' (their statements: YtoojhjhamhkmjaaTotals.lean).
  GIVEN WITH THE SEED: the statements are not yours to turn. If you find one false, say at which input.
  Laid BY PROGRAM, IN A SANDBOX (cutbox-rows.mjs): the forced cells as the released guide's own fill.sh prints them over the translation 0810e3d025d01e36… (all of the seat's roots in one cut). By AI agents, Wed Nov 11 2026. No macro, syntax, notation, axiom, sorry.
-/
import Derived.Test.YtoojhjhamhkmjaaChecked
import GoSem.Claim
import GoSem.ClaimJoined
import GoSem.ClaimMapViews
import Derived.JoinedTies
import Derived.KernelRfl
namespace Go.Proofs.Ytoojhjhamhkmjaa
/- THE CELL 'sum', in the pinned program and in every row, IS THE sha256 OF THE DUMP (.gsa) THAT YtoojhjhamhkmjaaProg.lean LOADS. Nothing in Lean hashes anything: it is a label: what it is worth is what the hold of that sum in a sandbox is worth. -/
noncomputable def Try.pinned : Pinned := { name := "ytoojhjhamhkmjaa", sum := "0810e3d025d01e36cbb3c2d5e9a3dcfcd32cc07f0d077da9e20101f31a600d8a", checked := Try.checked }
namespace Rows
def none {H : Type} : Left H := { results := [], args := [] }

/-- 'loiterlaw02.SpaceKeeps': WHATEVER THE INPUT: true; the input reads as it did. -/
def spaceKeepsSpec : ChangeSpec := { name := "spaceKeeps", fn := fun _ => fun
  | [d] => { results := [.lit (.bool true)], args := [d] }
  | _ => none }
def spaceKeepsRow : OpenClaim := { program := "ytoojhjhamhkmjaa", sum := "0810e3d025d01e36cbb3c2d5e9a3dcfcd32cc07f0d077da9e20101f31a600d8a", func := "loiter/loiterlaw02.SpaceKeeps", spec := "spaceKeeps", apart := false }
def SpaceKeepsSaid : Prop := spaceKeepsRow.holds Try.pinned (OpenSpec.ofChange spaceKeepsSpec)

/-- ITS FALSE NEIGHBOUR: 'it returns false'. Refute it at one input. -/
def spaceKeepsWrong : ChangeSpec := { name := "spaceKeeps", fn := fun _ => fun
  | [d] => { results := [.lit (.bool false)], args := [d] }
  | _ => none }
def SpaceKeepsWrongFalsely : Prop := spaceKeepsRow.holds Try.pinned (OpenSpec.ofChange spaceKeepsWrong)

/-- 'loiterlaw02.SpaceHalves': WHATEVER THE INPUT: true; the input reads as it did. -/
def spaceHalvesSpec : ChangeSpec := { name := "spaceHalves", fn := fun _ => fun
  | [d1, d2] => { results := [.lit (.bool true)], args := [d1, d2] }
  | _ => none }
def spaceHalvesRow : OpenClaim := { program := "ytoojhjhamhkmjaa", sum := "0810e3d025d01e36cbb3c2d5e9a3dcfcd32cc07f0d077da9e20101f31a600d8a", func := "loiter/loiterlaw02.SpaceHalves", spec := "spaceHalves", apart := false }
def SpaceHalvesSaid : Prop := spaceHalvesRow.holds Try.pinned (OpenSpec.ofChange spaceHalvesSpec)

/-- ITS FALSE NEIGHBOUR: 'it returns false'. Refute it at one input. -/
def spaceHalvesWrong : ChangeSpec := { name := "spaceHalves", fn := fun _ => fun
  | [d1, d2] => { results := [.lit (.bool false)], args := [d1, d2] }
  | _ => none }
def SpaceHalvesWrongFalsely : Prop := spaceHalvesRow.holds Try.pinned (OpenSpec.ofChange spaceHalvesWrong)

/-- 'loiterlaw02.SpaceInts': WHATEVER THE INPUT: true; the input reads as it did. -/
def spaceIntsSpec : ChangeSpec := { name := "spaceInts", fn := fun _ => fun
  | [d1, d2] => { results := [.lit (.bool true)], args := [d1, d2] }
  | _ => none }
def spaceIntsRow : OpenClaim := { program := "ytoojhjhamhkmjaa", sum := "0810e3d025d01e36cbb3c2d5e9a3dcfcd32cc07f0d077da9e20101f31a600d8a", func := "loiter/loiterlaw02.SpaceInts", spec := "spaceInts", apart := false }
def SpaceIntsSaid : Prop := spaceIntsRow.holds Try.pinned (OpenSpec.ofChange spaceIntsSpec)

/-- ITS FALSE NEIGHBOUR: 'it returns false'. Refute it at one input. -/
def spaceIntsWrong : ChangeSpec := { name := "spaceInts", fn := fun _ => fun
  | [d1, d2] => { results := [.lit (.bool false)], args := [d1, d2] }
  | _ => none }
def SpaceIntsWrongFalsely : Prop := spaceIntsRow.holds Try.pinned (OpenSpec.ofChange spaceIntsWrong)

/-- 'loiterlaw02.SpaceTexts': WHATEVER THE INPUT: true; the input reads as it did. -/
def spaceTextsSpec : ChangeSpec := { name := "spaceTexts", fn := fun _ => fun
  | [d1, d2] => { results := [.lit (.bool true)], args := [d1, d2] }
  | _ => none }
def spaceTextsRow : OpenClaim := { program := "ytoojhjhamhkmjaa", sum := "0810e3d025d01e36cbb3c2d5e9a3dcfcd32cc07f0d077da9e20101f31a600d8a", func := "loiter/loiterlaw02.SpaceTexts", spec := "spaceTexts", apart := false }
def SpaceTextsSaid : Prop := spaceTextsRow.holds Try.pinned (OpenSpec.ofChange spaceTextsSpec)

/-- ITS FALSE NEIGHBOUR: 'it returns false'. Refute it at one input. -/
def spaceTextsWrong : ChangeSpec := { name := "spaceTexts", fn := fun _ => fun
  | [d1, d2] => { results := [.lit (.bool false)], args := [d1, d2] }
  | _ => none }
def SpaceTextsWrongFalsely : Prop := spaceTextsRow.holds Try.pinned (OpenSpec.ofChange spaceTextsWrong)

/-- 'loiterlaw02.SpaceNil': WHATEVER THE INPUT: true; the input reads as it did. -/
def spaceNilSpec : ChangeSpec := { name := "spaceNil", fn := fun _ => fun
  | [] => { results := [.lit (.bool true)], args := [] }
  | _ => none }
def spaceNilRow : OpenClaim := { program := "ytoojhjhamhkmjaa", sum := "0810e3d025d01e36cbb3c2d5e9a3dcfcd32cc07f0d077da9e20101f31a600d8a", func := "loiter/loiterlaw02.SpaceNil", spec := "spaceNil", apart := false }
def SpaceNilSaid : Prop := spaceNilRow.holds Try.pinned (OpenSpec.ofChange spaceNilSpec)

/-- ITS FALSE NEIGHBOUR: 'it returns false'. Refute it at one input. -/
def spaceNilWrong : ChangeSpec := { name := "spaceNil", fn := fun _ => fun
  | [] => { results := [.lit (.bool false)], args := [] }
  | _ => none }
def SpaceNilWrongFalsely : Prop := spaceNilRow.holds Try.pinned (OpenSpec.ofChange spaceNilWrong)

/- THE SECOND FORM. 'bulk': how many values and letters a reading holds, each counted each time it is reached (what is shared counts as often as it is met; a slice's spare places count too). A statement '..UptoSaid' is the law's where the arguments, and the package variables that the reading takes, are together of bulk at most 1048576: NARROWER than '..Said'. Prove '..Said' where nothing that the law and all that it calls make is longer than what came in: it says more and counts as full. Else prove '..UptoSaid'. A law counts once. -/
mutual
def uptoBulk {H : Type} : DataW H → Nat
  | .lit (.string bytes) => bytes.length + 1
  | .lit _ => 1
  | .nil => 1
  | .ptr d => uptoBulk d + 1
  | .slice elems spare => uptoBulkAll elems + uptoBulkAll spare + 1
  | .agg parts => uptoBulkAll parts + 1
  | .iface _ d => uptoBulk d + 1
  | .map entries => uptoBulkEntries entries + 1
  | .held _ => 1
def uptoBulkAll {H : Type} : List (DataW H) → Nat
  | [] => 0
  | d :: r => uptoBulk d + uptoBulkAll r
def uptoBulkEntries {H : Type} : List (Lit × DataW H) → Nat
  | [] => 0
  | x :: r => uptoBulkEntry x + uptoBulkEntries r
def uptoBulkEntry {H : Type} : Lit × DataW H → Nat
  | (.string bytes, d) => bytes.length + uptoBulk d + 1
  | (_, d) => uptoBulk d + 1
 end
def uptoSmall : (H : Type) → List (DataW H) → Bool := fun _ ds => decide (uptoBulkAll ds ≤ 1048576)
def OpenSpec.upto (s : _root_.Go.ChangeSpec) : _root_.Go.OpenSpec := { _root_.Go.OpenSpec.ofChange s with cond := some uptoSmall }

/-- 'loiterlaw02.SpaceKeeps', WHERE WHAT IT READS IS OF BULK AT MOST 1048576: true; the input reads as it did. -/
def spaceKeepsUptoRow : OpenClaim := { program := "ytoojhjhamhkmjaa", sum := "0810e3d025d01e36cbb3c2d5e9a3dcfcd32cc07f0d077da9e20101f31a600d8a", func := "loiter/loiterlaw02.SpaceKeeps", spec := "spaceKeeps", apart := false, narrowed := true }
def SpaceKeepsUptoSaid : Prop := spaceKeepsUptoRow.holds Try.pinned (OpenSpec.upto spaceKeepsSpec)

/-- 'loiterlaw02.SpaceHalves', WHERE WHAT IT READS IS OF BULK AT MOST 1048576: true; the input reads as it did. -/
def spaceHalvesUptoRow : OpenClaim := { program := "ytoojhjhamhkmjaa", sum := "0810e3d025d01e36cbb3c2d5e9a3dcfcd32cc07f0d077da9e20101f31a600d8a", func := "loiter/loiterlaw02.SpaceHalves", spec := "spaceHalves", apart := false, narrowed := true }
def SpaceHalvesUptoSaid : Prop := spaceHalvesUptoRow.holds Try.pinned (OpenSpec.upto spaceHalvesSpec)

/-- 'loiterlaw02.SpaceInts', WHERE WHAT IT READS IS OF BULK AT MOST 1048576: true; the input reads as it did. -/
def spaceIntsUptoRow : OpenClaim := { program := "ytoojhjhamhkmjaa", sum := "0810e3d025d01e36cbb3c2d5e9a3dcfcd32cc07f0d077da9e20101f31a600d8a", func := "loiter/loiterlaw02.SpaceInts", spec := "spaceInts", apart := false, narrowed := true }
def SpaceIntsUptoSaid : Prop := spaceIntsUptoRow.holds Try.pinned (OpenSpec.upto spaceIntsSpec)

/-- 'loiterlaw02.SpaceTexts', WHERE WHAT IT READS IS OF BULK AT MOST 1048576: true; the input reads as it did. -/
def spaceTextsUptoRow : OpenClaim := { program := "ytoojhjhamhkmjaa", sum := "0810e3d025d01e36cbb3c2d5e9a3dcfcd32cc07f0d077da9e20101f31a600d8a", func := "loiter/loiterlaw02.SpaceTexts", spec := "spaceTexts", apart := false, narrowed := true }
def SpaceTextsUptoSaid : Prop := spaceTextsUptoRow.holds Try.pinned (OpenSpec.upto spaceTextsSpec)

/-- 'loiterlaw02.SpaceNil', WHERE WHAT IT READS IS OF BULK AT MOST 1048576: true; the input reads as it did. -/
def spaceNilUptoRow : OpenClaim := { program := "ytoojhjhamhkmjaa", sum := "0810e3d025d01e36cbb3c2d5e9a3dcfcd32cc07f0d077da9e20101f31a600d8a", func := "loiter/loiterlaw02.SpaceNil", spec := "spaceNil", apart := false, narrowed := true }
def SpaceNilUptoSaid : Prop := spaceNilUptoRow.holds Try.pinned (OpenSpec.upto spaceNilSpec)

end Rows
end Go.Proofs.Ytoojhjhamhkmjaa
