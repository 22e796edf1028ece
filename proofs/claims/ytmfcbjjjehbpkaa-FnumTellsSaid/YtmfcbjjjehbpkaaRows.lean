/-
  No cell of these rows narrows 'for every input' (looked for: loops, veiled, ifaces, maps, wideKeys, modest, calm, conditions, laid).
  DERIVED. THE GIVEN ROWS OF THIS SEAT. 7 by the template 'for every input the law returns true; each argument reads behind the call as it read before'; 0 by the template 'total and deterministic' (their statements: YtmfcbjjjehbpkaaTotals.lean).
  GIVEN WITH THE SEED: the statements are not yours to turn. If you find one false, say at which input.
  Laid BY PROGRAM, IN A SANDBOX (cutbox-rows.mjs): the forced cells as the released guide's own fill.sh prints them over the translation ef1beae0a1ec9b6a… (all of the seat's roots in one cut). By AI agents, Wed Nov 11 2026. No macro, syntax, notation, axiom, sorry.
-/
import Derived.Test.YtmfcbjjjehbpkaaChecked
import GoSem.Claim
import GoSem.ClaimJoined
import GoSem.ClaimMapViews
import Derived.JoinedTies
import Derived.KernelRfl
namespace Go.Proofs.Ytmfcbjjjehbpkaa
/- THE CELL 'sum', in the pinned program and in every row, IS THE sha256 OF THE DUMP (.gsa) THAT YtmfcbjjjehbpkaaProg.lean LOADS. Nothing in Lean hashes anything: it is a label: what it is worth is what the hold of that sum in a sandbox is worth. -/
noncomputable def Try.pinned : Pinned := { name := "ytmfcbjjjehbpkaa", sum := "ef1beae0a1ec9b6ab5213ee7303f9c0677d076e137be16a6e855f975d9ac2092", checked := Try.checked }
namespace Rows
def none {H : Type} : Left H := { results := [], args := [] }

/-- 'lamplighterlaw01.FnumTells': WHATEVER THE INPUT: true; the input reads as it did. -/
def fnumTellsSpec : ChangeSpec := { name := "fnumTells", fn := fun _ => fun
  | [d1, d2, d3] => { results := [.lit (.bool true)], args := [d1, d2, d3] }
  | _ => none }
def fnumTellsRow : OpenClaim := { program := "ytmfcbjjjehbpkaa", sum := "ef1beae0a1ec9b6ab5213ee7303f9c0677d076e137be16a6e855f975d9ac2092", func := "lamplighter/lamplighterlaw01.FnumTells", spec := "fnumTells", inPlace := ["math.Float64frombits", "math.Float64bits"], apart := false }
def FnumTellsSaid : Prop := fnumTellsRow.holds Try.pinned (OpenSpec.ofChange fnumTellsSpec)

/-- ITS FALSE NEIGHBOUR: 'it returns false'. Refute it at one input. -/
def fnumTellsWrong : ChangeSpec := { name := "fnumTells", fn := fun _ => fun
  | [d1, d2, d3] => { results := [.lit (.bool false)], args := [d1, d2, d3] }
  | _ => none }
def FnumTellsWrongFalsely : Prop := fnumTellsRow.holds Try.pinned (OpenSpec.ofChange fnumTellsWrong)

/-- 'lamplighterlaw01.FnumOrder': WHATEVER THE INPUT: true; the input reads as it did. -/
def fnumOrderSpec : ChangeSpec := { name := "fnumOrder", fn := fun _ => fun
  | [d1, d2] => { results := [.lit (.bool true)], args := [d1, d2] }
  | _ => none }
def fnumOrderRow : OpenClaim := { program := "ytmfcbjjjehbpkaa", sum := "ef1beae0a1ec9b6ab5213ee7303f9c0677d076e137be16a6e855f975d9ac2092", func := "lamplighter/lamplighterlaw01.FnumOrder", spec := "fnumOrder", inPlace := ["math.Float64frombits", "math.Float64bits"], apart := false }
def FnumOrderSaid : Prop := fnumOrderRow.holds Try.pinned (OpenSpec.ofChange fnumOrderSpec)

/-- ITS FALSE NEIGHBOUR: 'it returns false'. Refute it at one input. -/
def fnumOrderWrong : ChangeSpec := { name := "fnumOrder", fn := fun _ => fun
  | [d1, d2] => { results := [.lit (.bool false)], args := [d1, d2] }
  | _ => none }
def FnumOrderWrongFalsely : Prop := fnumOrderRow.holds Try.pinned (OpenSpec.ofChange fnumOrderWrong)

/-- 'lamplighterlaw01.FnumBack': WHATEVER THE INPUT: true; the input reads as it did. -/
def fnumBackSpec : ChangeSpec := { name := "fnumBack", fn := fun _ => fun
  | [d1, d2] => { results := [.lit (.bool true)], args := [d1, d2] }
  | _ => none }
def fnumBackRow : OpenClaim := { program := "ytmfcbjjjehbpkaa", sum := "ef1beae0a1ec9b6ab5213ee7303f9c0677d076e137be16a6e855f975d9ac2092", func := "lamplighter/lamplighterlaw01.FnumBack", spec := "fnumBack", inPlace := ["math.Float64frombits", "math.Float64bits"], apart := false }
def FnumBackSaid : Prop := fnumBackRow.holds Try.pinned (OpenSpec.ofChange fnumBackSpec)

/-- ITS FALSE NEIGHBOUR: 'it returns false'. Refute it at one input. -/
def fnumBackWrong : ChangeSpec := { name := "fnumBack", fn := fun _ => fun
  | [d1, d2] => { results := [.lit (.bool false)], args := [d1, d2] }
  | _ => none }
def FnumBackWrongFalsely : Prop := fnumBackRow.holds Try.pinned (OpenSpec.ofChange fnumBackWrong)

/-- 'lamplighterlaw01.FnumOnly': WHATEVER THE INPUT: true; the input reads as it did. -/
def fnumOnlySpec : ChangeSpec := { name := "fnumOnly", fn := fun _ => fun
  | [d] => { results := [.lit (.bool true)], args := [d] }
  | _ => none }
def fnumOnlyRow : OpenClaim := { program := "ytmfcbjjjehbpkaa", sum := "ef1beae0a1ec9b6ab5213ee7303f9c0677d076e137be16a6e855f975d9ac2092", func := "lamplighter/lamplighterlaw01.FnumOnly", spec := "fnumOnly", inPlace := ["math.Float64frombits", "math.Float64bits"], apart := false }
def FnumOnlySaid : Prop := fnumOnlyRow.holds Try.pinned (OpenSpec.ofChange fnumOnlySpec)

/-- ITS FALSE NEIGHBOUR: 'it returns false'. Refute it at one input. -/
def fnumOnlyWrong : ChangeSpec := { name := "fnumOnly", fn := fun _ => fun
  | [d] => { results := [.lit (.bool false)], args := [d] }
  | _ => none }
def FnumOnlyWrongFalsely : Prop := fnumOnlyRow.holds Try.pinned (OpenSpec.ofChange fnumOnlyWrong)

/-- 'lamplighterlaw01.FnumTurns': WHATEVER THE INPUT: true; the input reads as it did. -/
def fnumTurnsSpec : ChangeSpec := { name := "fnumTurns", fn := fun _ => fun
  | [d] => { results := [.lit (.bool true)], args := [d] }
  | _ => none }
def fnumTurnsRow : OpenClaim := { program := "ytmfcbjjjehbpkaa", sum := "ef1beae0a1ec9b6ab5213ee7303f9c0677d076e137be16a6e855f975d9ac2092", func := "lamplighter/lamplighterlaw01.FnumTurns", spec := "fnumTurns", inPlace := ["math.Float64frombits", "math.Float64bits"], apart := false }
def FnumTurnsSaid : Prop := fnumTurnsRow.holds Try.pinned (OpenSpec.ofChange fnumTurnsSpec)

/-- ITS FALSE NEIGHBOUR: 'it returns false'. Refute it at one input. -/
def fnumTurnsWrong : ChangeSpec := { name := "fnumTurns", fn := fun _ => fun
  | [d] => { results := [.lit (.bool false)], args := [d] }
  | _ => none }
def FnumTurnsWrongFalsely : Prop := fnumTurnsRow.holds Try.pinned (OpenSpec.ofChange fnumTurnsWrong)

/-- 'lamplighterlaw01.FnumMirror': WHATEVER THE INPUT: true; the input reads as it did. -/
def fnumMirrorSpec : ChangeSpec := { name := "fnumMirror", fn := fun _ => fun
  | [d1, d2] => { results := [.lit (.bool true)], args := [d1, d2] }
  | _ => none }
def fnumMirrorRow : OpenClaim := { program := "ytmfcbjjjehbpkaa", sum := "ef1beae0a1ec9b6ab5213ee7303f9c0677d076e137be16a6e855f975d9ac2092", func := "lamplighter/lamplighterlaw01.FnumMirror", spec := "fnumMirror", inPlace := ["math.Float64frombits", "math.Float64bits"], apart := false }
def FnumMirrorSaid : Prop := fnumMirrorRow.holds Try.pinned (OpenSpec.ofChange fnumMirrorSpec)

/-- ITS FALSE NEIGHBOUR: 'it returns false'. Refute it at one input. -/
def fnumMirrorWrong : ChangeSpec := { name := "fnumMirror", fn := fun _ => fun
  | [d1, d2] => { results := [.lit (.bool false)], args := [d1, d2] }
  | _ => none }
def FnumMirrorWrongFalsely : Prop := fnumMirrorRow.holds Try.pinned (OpenSpec.ofChange fnumMirrorWrong)

/-- 'lamplighterlaw01.FnumEdges': WHATEVER THE INPUT: true; the input reads as it did. -/
def fnumEdgesSpec : ChangeSpec := { name := "fnumEdges", fn := fun _ => fun
  | [d] => { results := [.lit (.bool true)], args := [d] }
  | _ => none }
def fnumEdgesRow : OpenClaim := { program := "ytmfcbjjjehbpkaa", sum := "ef1beae0a1ec9b6ab5213ee7303f9c0677d076e137be16a6e855f975d9ac2092", func := "lamplighter/lamplighterlaw01.FnumEdges", spec := "fnumEdges", inPlace := ["math.Float64frombits", "math.Float64bits"], apart := false }
def FnumEdgesSaid : Prop := fnumEdgesRow.holds Try.pinned (OpenSpec.ofChange fnumEdgesSpec)

/-- ITS FALSE NEIGHBOUR: 'it returns false'. Refute it at one input. -/
def fnumEdgesWrong : ChangeSpec := { name := "fnumEdges", fn := fun _ => fun
  | [d] => { results := [.lit (.bool false)], args := [d] }
  | _ => none }
def FnumEdgesWrongFalsely : Prop := fnumEdgesRow.holds Try.pinned (OpenSpec.ofChange fnumEdgesWrong)

/- THE SECOND FORM. 'bulk': how many values and letters a reading holds, each counted each time it is reached (what is shared counts as often as it is met; a slice's spare places count too). A statement '..UptoSaid' is the law's where the arguments, and the package variables that the reading takes, are together of bulk at most 1048576: NARROWER than '..Said'. Prove '..Said' where nothing that the law and all that it calls make is longer than what came in: it says more and counts as full. Else prove '..UptoSaid'. A law counts once. -/
mutual
def uptoBulk {H : Type} : DataW H → Nat
  | .lit (.string bytes) => bytes.length + 1
  | .lit _ => 1
  | .nil => 1
  | .ptr d => uptoBulk d + 1
  | .slice elems spare => uptoBulkAll elems + uptoBulkAll spare + 1
  | .agg parts => uptoBulkAll parts + 1
  | .iface _ d => uptoBulk d + 1
  | .map entries => uptoBulkEntries entries + 1
  | .held _ => 1
def uptoBulkAll {H : Type} : List (DataW H) → Nat
  | [] => 0
  | d :: r => uptoBulk d + uptoBulkAll r
def uptoBulkEntries {H : Type} : List (Lit × DataW H) → Nat
  | [] => 0
  | x :: r => uptoBulkEntry x + uptoBulkEntries r
def uptoBulkEntry {H : Type} : Lit × DataW H → Nat
  | (.string bytes, d) => bytes.length + uptoBulk d + 1
  | (_, d) => uptoBulk d + 1
 end
def uptoSmall : (H : Type) → List (DataW H) → Bool := fun _ ds => decide (uptoBulkAll ds ≤ 1048576)
def OpenSpec.upto (s : _root_.Go.ChangeSpec) : _root_.Go.OpenSpec := { _root_.Go.OpenSpec.ofChange s with cond := some uptoSmall }

/-- 'lamplighterlaw01.FnumTells', WHERE WHAT IT READS IS OF BULK AT MOST 1048576: true; the input reads as it did. -/
def fnumTellsUptoRow : OpenClaim := { program := "ytmfcbjjjehbpkaa", sum := "ef1beae0a1ec9b6ab5213ee7303f9c0677d076e137be16a6e855f975d9ac2092", func := "lamplighter/lamplighterlaw01.FnumTells", spec := "fnumTells", inPlace := ["math.Float64frombits", "math.Float64bits"], apart := false, narrowed := true }
def FnumTellsUptoSaid : Prop := fnumTellsUptoRow.holds Try.pinned (OpenSpec.upto fnumTellsSpec)

/-- 'lamplighterlaw01.FnumOrder', WHERE WHAT IT READS IS OF BULK AT MOST 1048576: true; the input reads as it did. -/
def fnumOrderUptoRow : OpenClaim := { program := "ytmfcbjjjehbpkaa", sum := "ef1beae0a1ec9b6ab5213ee7303f9c0677d076e137be16a6e855f975d9ac2092", func := "lamplighter/lamplighterlaw01.FnumOrder", spec := "fnumOrder", inPlace := ["math.Float64frombits", "math.Float64bits"], apart := false, narrowed := true }
def FnumOrderUptoSaid : Prop := fnumOrderUptoRow.holds Try.pinned (OpenSpec.upto fnumOrderSpec)

/-- 'lamplighterlaw01.FnumBack', WHERE WHAT IT READS IS OF BULK AT MOST 1048576: true; the input reads as it did. -/
def fnumBackUptoRow : OpenClaim := { program := "ytmfcbjjjehbpkaa", sum := "ef1beae0a1ec9b6ab5213ee7303f9c0677d076e137be16a6e855f975d9ac2092", func := "lamplighter/lamplighterlaw01.FnumBack", spec := "fnumBack", inPlace := ["math.Float64frombits", "math.Float64bits"], apart := false, narrowed := true }
def FnumBackUptoSaid : Prop := fnumBackUptoRow.holds Try.pinned (OpenSpec.upto fnumBackSpec)

/-- 'lamplighterlaw01.FnumOnly', WHERE WHAT IT READS IS OF BULK AT MOST 1048576: true; the input reads as it did. -/
def fnumOnlyUptoRow : OpenClaim := { program := "ytmfcbjjjehbpkaa", sum := "ef1beae0a1ec9b6ab5213ee7303f9c0677d076e137be16a6e855f975d9ac2092", func := "lamplighter/lamplighterlaw01.FnumOnly", spec := "fnumOnly", inPlace := ["math.Float64frombits", "math.Float64bits"], apart := false, narrowed := true }
def FnumOnlyUptoSaid : Prop := fnumOnlyUptoRow.holds Try.pinned (OpenSpec.upto fnumOnlySpec)

/-- 'lamplighterlaw01.FnumTurns', WHERE WHAT IT READS IS OF BULK AT MOST 1048576: true; the input reads as it did. -/
def fnumTurnsUptoRow : OpenClaim := { program := "ytmfcbjjjehbpkaa", sum := "ef1beae0a1ec9b6ab5213ee7303f9c0677d076e137be16a6e855f975d9ac2092", func := "lamplighter/lamplighterlaw01.FnumTurns", spec := "fnumTurns", inPlace := ["math.Float64frombits", "math.Float64bits"], apart := false, narrowed := true }
def FnumTurnsUptoSaid : Prop := fnumTurnsUptoRow.holds Try.pinned (OpenSpec.upto fnumTurnsSpec)

/-- 'lamplighterlaw01.FnumMirror', WHERE WHAT IT READS IS OF BULK AT MOST 1048576: true; the input reads as it did. -/
def fnumMirrorUptoRow : OpenClaim := { program := "ytmfcbjjjehbpkaa", sum := "ef1beae0a1ec9b6ab5213ee7303f9c0677d076e137be16a6e855f975d9ac2092", func := "lamplighter/lamplighterlaw01.FnumMirror", spec := "fnumMirror", inPlace := ["math.Float64frombits", "math.Float64bits"], apart := false, narrowed := true }
def FnumMirrorUptoSaid : Prop := fnumMirrorUptoRow.holds Try.pinned (OpenSpec.upto fnumMirrorSpec)

/-- 'lamplighterlaw01.FnumEdges', WHERE WHAT IT READS IS OF BULK AT MOST 1048576: true; the input reads as it did. -/
def fnumEdgesUptoRow : OpenClaim := { program := "ytmfcbjjjehbpkaa", sum := "ef1beae0a1ec9b6ab5213ee7303f9c0677d076e137be16a6e855f975d9ac2092", func := "lamplighter/lamplighterlaw01.FnumEdges", spec := "fnumEdges", inPlace := ["math.Float64frombits", "math.Float64bits"], apart := false, narrowed := true }
def FnumEdgesUptoSaid : Prop := fnumEdgesUptoRow.holds Try.pinned (OpenSpec.upto fnumEdgesSpec)

end Rows
end Go.Proofs.Ytmfcbjjjehbpkaa
