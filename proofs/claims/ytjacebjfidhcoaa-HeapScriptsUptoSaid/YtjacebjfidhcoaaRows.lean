/-
  No cell of these rows narrows 'for every input' (looked for: loops, veiled, ifaces, maps, wideKeys, modest, calm, conditions, laid).
  DERIVED. THE GIVEN ROWS OF THIS SEAT. 6 by the template 'for every input the law returns true; each argument reads behind the call as it read before'; 0 by the template 'total and deterministic' (their statements: YtjacebjfidhcoaaTotals.lean).
  GIVEN WITH THE SEED: the statements are not yours to turn. If you find one false, say at which input.
  Laid BY PROGRAM, IN A SANDBOX (cutbox-rows.mjs): the forced cells as the released guide's own fill.sh prints them over the translation 62b96cd51a29b95b… (all of the seat's roots in one cut). By AI agents, Wed Nov 11 2026. No macro, syntax, notation, axiom, sorry.
-/
import Derived.Test.YtjacebjfidhcoaaChecked
import GoSem.Claim
import GoSem.ClaimJoined
import GoSem.ClaimMapViews
import Derived.JoinedTies
import Derived.KernelRfl
namespace Go.Proofs.Ytjacebjfidhcoaa
/- THE CELL 'sum', in the pinned program and in every row, IS THE sha256 OF THE DUMP (.gsa) THAT YtjacebjfidhcoaaProg.lean LOADS. Nothing in Lean hashes anything: it is a label: what it is worth is what the hold of that sum in a sandbox is worth. -/
noncomputable def Try.pinned : Pinned := { name := "ytjacebjfidhcoaa", sum := "62b96cd51a29b95b7c9f4c253217ba4ae57ef96aec3589730b27977284d623f7", checked := Try.checked }
namespace Rows
def none {H : Type} : Left H := { results := [], args := [] }

/-- 'loiterlaw18.HeapKeeps': WHATEVER THE INPUT: true; the input reads as it did. -/
def heapKeepsSpec : ChangeSpec := { name := "heapKeeps", fn := fun _ => fun
  | [d] => { results := [.lit (.bool true)], args := [d] }
  | _ => none }
def heapKeepsRow : OpenClaim := { program := "ytjacebjfidhcoaa", sum := "62b96cd51a29b95b7c9f4c253217ba4ae57ef96aec3589730b27977284d623f7", func := "loiter/loiterlaw18.HeapKeeps", spec := "heapKeeps", unfollowed := true, recurses := true, apart := false }
def HeapKeepsSaid : Prop := heapKeepsRow.holds Try.pinned (OpenSpec.ofChange heapKeepsSpec)

/-- ITS FALSE NEIGHBOUR: 'it returns false'. Refute it at one input. -/
def heapKeepsWrong : ChangeSpec := { name := "heapKeeps", fn := fun _ => fun
  | [d] => { results := [.lit (.bool false)], args := [d] }
  | _ => none }
def HeapKeepsWrongFalsely : Prop := heapKeepsRow.holds Try.pinned (OpenSpec.ofChange heapKeepsWrong)

/-- 'loiterlaw18.HeapLies': WHATEVER THE INPUT: true; the input reads as it did. -/
def heapLiesSpec : ChangeSpec := { name := "heapLies", fn := fun _ => fun
  | [d1, d2] => { results := [.lit (.bool true)], args := [d1, d2] }
  | _ => none }
def heapLiesRow : OpenClaim := { program := "ytjacebjfidhcoaa", sum := "62b96cd51a29b95b7c9f4c253217ba4ae57ef96aec3589730b27977284d623f7", func := "loiter/loiterlaw18.HeapLies", spec := "heapLies", unfollowed := true, recurses := true, apart := false }
def HeapLiesSaid : Prop := heapLiesRow.holds Try.pinned (OpenSpec.ofChange heapLiesSpec)

/-- ITS FALSE NEIGHBOUR: 'it returns false'. Refute it at one input. -/
def heapLiesWrong : ChangeSpec := { name := "heapLies", fn := fun _ => fun
  | [d1, d2] => { results := [.lit (.bool false)], args := [d1, d2] }
  | _ => none }
def HeapLiesWrongFalsely : Prop := heapLiesRow.holds Try.pinned (OpenSpec.ofChange heapLiesWrong)

/-- 'loiterlaw18.HeapBecomes': WHATEVER THE INPUT: true; the input reads as it did. -/
def heapBecomesSpec : ChangeSpec := { name := "heapBecomes", fn := fun _ => fun
  | [d1, d2] => { results := [.lit (.bool true)], args := [d1, d2] }
  | _ => none }
def heapBecomesRow : OpenClaim := { program := "ytjacebjfidhcoaa", sum := "62b96cd51a29b95b7c9f4c253217ba4ae57ef96aec3589730b27977284d623f7", func := "loiter/loiterlaw18.HeapBecomes", spec := "heapBecomes", unfollowed := true, recurses := true, apart := false }
def HeapBecomesSaid : Prop := heapBecomesRow.holds Try.pinned (OpenSpec.ofChange heapBecomesSpec)

/-- ITS FALSE NEIGHBOUR: 'it returns false'. Refute it at one input. -/
def heapBecomesWrong : ChangeSpec := { name := "heapBecomes", fn := fun _ => fun
  | [d1, d2] => { results := [.lit (.bool false)], args := [d1, d2] }
  | _ => none }
def HeapBecomesWrongFalsely : Prop := heapBecomesRow.holds Try.pinned (OpenSpec.ofChange heapBecomesWrong)

/-- 'loiterlaw18.HeapMoves': WHATEVER THE INPUT: true; the input reads as it did. -/
def heapMovesSpec : ChangeSpec := { name := "heapMoves", fn := fun _ => fun
  | [d1, d2] => { results := [.lit (.bool true)], args := [d1, d2] }
  | _ => none }
def heapMovesRow : OpenClaim := { program := "ytjacebjfidhcoaa", sum := "62b96cd51a29b95b7c9f4c253217ba4ae57ef96aec3589730b27977284d623f7", func := "loiter/loiterlaw18.HeapMoves", spec := "heapMoves", unfollowed := true, recurses := true, apart := false }
def HeapMovesSaid : Prop := heapMovesRow.holds Try.pinned (OpenSpec.ofChange heapMovesSpec)

/-- ITS FALSE NEIGHBOUR: 'it returns false'. Refute it at one input. -/
def heapMovesWrong : ChangeSpec := { name := "heapMoves", fn := fun _ => fun
  | [d1, d2] => { results := [.lit (.bool false)], args := [d1, d2] }
  | _ => none }
def HeapMovesWrongFalsely : Prop := heapMovesRow.holds Try.pinned (OpenSpec.ofChange heapMovesWrong)

/-- 'loiterlaw18.HeapScripts': WHATEVER THE INPUT: true; the input reads as it did. -/
def heapScriptsSpec : ChangeSpec := { name := "heapScripts", fn := fun _ => fun
  | [d1, d2, d3] => { results := [.lit (.bool true)], args := [d1, d2, d3] }
  | _ => none }
def heapScriptsRow : OpenClaim := { program := "ytjacebjfidhcoaa", sum := "62b96cd51a29b95b7c9f4c253217ba4ae57ef96aec3589730b27977284d623f7", func := "loiter/loiterlaw18.HeapScripts", spec := "heapScripts", unfollowed := true, recurses := true, apart := false }
def HeapScriptsSaid : Prop := heapScriptsRow.holds Try.pinned (OpenSpec.ofChange heapScriptsSpec)

/-- ITS FALSE NEIGHBOUR: 'it returns false'. Refute it at one input. -/
def heapScriptsWrong : ChangeSpec := { name := "heapScripts", fn := fun _ => fun
  | [d1, d2, d3] => { results := [.lit (.bool false)], args := [d1, d2, d3] }
  | _ => none }
def HeapScriptsWrongFalsely : Prop := heapScriptsRow.holds Try.pinned (OpenSpec.ofChange heapScriptsWrong)

/-- 'loiterlaw18.HeapNil': WHATEVER THE INPUT: true; the input reads as it did. -/
def heapNilSpec : ChangeSpec := { name := "heapNil", fn := fun _ => fun
  | [] => { results := [.lit (.bool true)], args := [] }
  | _ => none }
def heapNilRow : OpenClaim := { program := "ytjacebjfidhcoaa", sum := "62b96cd51a29b95b7c9f4c253217ba4ae57ef96aec3589730b27977284d623f7", func := "loiter/loiterlaw18.HeapNil", spec := "heapNil", unfollowed := true, recurses := true, apart := false }
def HeapNilSaid : Prop := heapNilRow.holds Try.pinned (OpenSpec.ofChange heapNilSpec)

/-- ITS FALSE NEIGHBOUR: 'it returns false'. Refute it at one input. -/
def heapNilWrong : ChangeSpec := { name := "heapNil", fn := fun _ => fun
  | [] => { results := [.lit (.bool false)], args := [] }
  | _ => none }
def HeapNilWrongFalsely : Prop := heapNilRow.holds Try.pinned (OpenSpec.ofChange heapNilWrong)

/- THE SECOND FORM. 'bulk': how many values and letters a reading holds, each counted each time it is reached (what is shared counts as often as it is met; a slice's spare places count too). A statement '..UptoSaid' is the law's where the arguments, and the package variables that the reading takes, are together of bulk at most 1048576: NARROWER than '..Said'. Prove '..Said' where nothing that the law and all that it calls make is longer than what came in: it says more and counts as full. Else prove '..UptoSaid'. A law counts once. -/
mutual
def uptoBulk {H : Type} : DataW H → Nat
  | .lit (.string bytes) => bytes.length + 1
  | .lit _ => 1
  | .nil => 1
  | .ptr d => uptoBulk d + 1
  | .slice elems spare => uptoBulkAll elems + uptoBulkAll spare + 1
  | .agg parts => uptoBulkAll parts + 1
  | .iface _ d => uptoBulk d + 1
  | .map entries => uptoBulkEntries entries + 1
  | .held _ => 1
def uptoBulkAll {H : Type} : List (DataW H) → Nat
  | [] => 0
  | d :: r => uptoBulk d + uptoBulkAll r
def uptoBulkEntries {H : Type} : List (Lit × DataW H) → Nat
  | [] => 0
  | x :: r => uptoBulkEntry x + uptoBulkEntries r
def uptoBulkEntry {H : Type} : Lit × DataW H → Nat
  | (.string bytes, d) => bytes.length + uptoBulk d + 1
  | (_, d) => uptoBulk d + 1
 end
def uptoSmall : (H : Type) → List (DataW H) → Bool := fun _ ds => decide (uptoBulkAll ds ≤ 1048576)
def OpenSpec.upto (s : _root_.Go.ChangeSpec) : _root_.Go.OpenSpec := { _root_.Go.OpenSpec.ofChange s with cond := some uptoSmall }

/-- 'loiterlaw18.HeapKeeps', WHERE WHAT IT READS IS OF BULK AT MOST 1048576: true; the input reads as it did. -/
def heapKeepsUptoRow : OpenClaim := { program := "ytjacebjfidhcoaa", sum := "62b96cd51a29b95b7c9f4c253217ba4ae57ef96aec3589730b27977284d623f7", func := "loiter/loiterlaw18.HeapKeeps", spec := "heapKeeps", unfollowed := true, recurses := true, apart := false, narrowed := true }
def HeapKeepsUptoSaid : Prop := heapKeepsUptoRow.holds Try.pinned (OpenSpec.upto heapKeepsSpec)

/-- 'loiterlaw18.HeapLies', WHERE WHAT IT READS IS OF BULK AT MOST 1048576: true; the input reads as it did. -/
def heapLiesUptoRow : OpenClaim := { program := "ytjacebjfidhcoaa", sum := "62b96cd51a29b95b7c9f4c253217ba4ae57ef96aec3589730b27977284d623f7", func := "loiter/loiterlaw18.HeapLies", spec := "heapLies", unfollowed := true, recurses := true, apart := false, narrowed := true }
def HeapLiesUptoSaid : Prop := heapLiesUptoRow.holds Try.pinned (OpenSpec.upto heapLiesSpec)

/-- 'loiterlaw18.HeapBecomes', WHERE WHAT IT READS IS OF BULK AT MOST 1048576: true; the input reads as it did. -/
def heapBecomesUptoRow : OpenClaim := { program := "ytjacebjfidhcoaa", sum := "62b96cd51a29b95b7c9f4c253217ba4ae57ef96aec3589730b27977284d623f7", func := "loiter/loiterlaw18.HeapBecomes", spec := "heapBecomes", unfollowed := true, recurses := true, apart := false, narrowed := true }
def HeapBecomesUptoSaid : Prop := heapBecomesUptoRow.holds Try.pinned (OpenSpec.upto heapBecomesSpec)

/-- 'loiterlaw18.HeapMoves', WHERE WHAT IT READS IS OF BULK AT MOST 1048576: true; the input reads as it did. -/
def heapMovesUptoRow : OpenClaim := { program := "ytjacebjfidhcoaa", sum := "62b96cd51a29b95b7c9f4c253217ba4ae57ef96aec3589730b27977284d623f7", func := "loiter/loiterlaw18.HeapMoves", spec := "heapMoves", unfollowed := true, recurses := true, apart := false, narrowed := true }
def HeapMovesUptoSaid : Prop := heapMovesUptoRow.holds Try.pinned (OpenSpec.upto heapMovesSpec)

/-- 'loiterlaw18.HeapScripts', WHERE WHAT IT READS IS OF BULK AT MOST 1048576: true; the input reads as it did. -/
def heapScriptsUptoRow : OpenClaim := { program := "ytjacebjfidhcoaa", sum := "62b96cd51a29b95b7c9f4c253217ba4ae57ef96aec3589730b27977284d623f7", func := "loiter/loiterlaw18.HeapScripts", spec := "heapScripts", unfollowed := true, recurses := true, apart := false, narrowed := true }
def HeapScriptsUptoSaid : Prop := heapScriptsUptoRow.holds Try.pinned (OpenSpec.upto heapScriptsSpec)

/-- 'loiterlaw18.HeapNil', WHERE WHAT IT READS IS OF BULK AT MOST 1048576: true; the input reads as it did. -/
def heapNilUptoRow : OpenClaim := { program := "ytjacebjfidhcoaa", sum := "62b96cd51a29b95b7c9f4c253217ba4ae57ef96aec3589730b27977284d623f7", func := "loiter/loiterlaw18.HeapNil", spec := "heapNil", unfollowed := true, recurses := true, apart := false, narrowed := true }
def HeapNilUptoSaid : Prop := heapNilUptoRow.holds Try.pinned (OpenSpec.upto heapNilSpec)

end Rows
end Go.Proofs.Ytjacebjfidhcoaa
