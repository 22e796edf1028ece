/-
  No cell of these rows narrows 'for every input' (looked for: loops, veiled, ifaces, maps, wideKeys, modest, calm, conditions, laid).
  DERIVED. THE GIVEN ROWS OF THIS SEAT. 5 by the template 'for every input the law returns true; each argument reads behind the call as it read before'; 0 by the template 'total and deterministic' (their statements: YtjidfnogmedgnaaTotals.lean).
  GIVEN WITH THE SEED: the statements are not yours to turn. If you find one false, say at which input.
  Laid BY PROGRAM, IN A SANDBOX (cutbox-rows.mjs): the forced cells as the released guide's own fill.sh prints them over the translation 2765df7d6dfe78f7… (all of the seat's roots in one cut). By AI agents, Wed Nov 11 2026. No macro, syntax, notation, axiom, sorry.
-/
import Derived.Test.YtjidfnogmedgnaaChecked
import GoSem.Claim
import GoSem.ClaimJoined
import GoSem.ClaimMapViews
import Derived.JoinedTies
import Derived.KernelRfl
namespace Go.Proofs.Ytjidfnogmedgnaa
/- THE CELL 'sum', in the pinned program and in every row, IS THE sha256 OF THE DUMP (.gsa) THAT YtjidfnogmedgnaaProg.lean LOADS. Nothing in Lean hashes anything: it is a label: what it is worth is what the hold of that sum in a sandbox is worth. -/
noncomputable def Try.pinned : Pinned := { name := "ytjidfnogmedgnaa", sum := "2765df7d6dfe78f7083b6792ad5d40443494eef35f829c6f6043c7200e24762d", checked := Try.checked }
namespace Rows
def none {H : Type} : Left H := { results := [], args := [] }

/-- 'lamplighterlaw10.AllocTells': WHATEVER THE INPUT: true; the input reads as it did. -/
def allocTellsSpec : ChangeSpec := { name := "allocTells", fn := fun _ => fun
  | [d1, d2, d3, d4] => { results := [.lit (.bool true)], args := [d1, d2, d3, d4] }
  | _ => none }
def allocTellsRow : OpenClaim := { program := "ytjidfnogmedgnaa", sum := "2765df7d6dfe78f7083b6792ad5d40443494eef35f829c6f6043c7200e24762d", func := "lamplighter/lamplighterlaw10.AllocTells", spec := "allocTells", inPlace := ["slices.overlaps[int]"], apart := false }
def AllocTellsSaid : Prop := allocTellsRow.holds Try.pinned (OpenSpec.ofChange allocTellsSpec)

/-- ITS FALSE NEIGHBOUR: 'it returns false'. Refute it at one input. -/
def allocTellsWrong : ChangeSpec := { name := "allocTells", fn := fun _ => fun
  | [d1, d2, d3, d4] => { results := [.lit (.bool false)], args := [d1, d2, d3, d4] }
  | _ => none }
def AllocTellsWrongFalsely : Prop := allocTellsRow.holds Try.pinned (OpenSpec.ofChange allocTellsWrong)

/-- 'lamplighterlaw10.AllocBack': WHATEVER THE INPUT: true; the input reads as it did. -/
def allocBackSpec : ChangeSpec := { name := "allocBack", fn := fun _ => fun
  | [d1, d2, d3] => { results := [.lit (.bool true)], args := [d1, d2, d3] }
  | _ => none }
def allocBackRow : OpenClaim := { program := "ytjidfnogmedgnaa", sum := "2765df7d6dfe78f7083b6792ad5d40443494eef35f829c6f6043c7200e24762d", func := "lamplighter/lamplighterlaw10.AllocBack", spec := "allocBack", inPlace := ["slices.overlaps[int]"], apart := false }
def AllocBackSaid : Prop := allocBackRow.holds Try.pinned (OpenSpec.ofChange allocBackSpec)

/-- ITS FALSE NEIGHBOUR: 'it returns false'. Refute it at one input. -/
def allocBackWrong : ChangeSpec := { name := "allocBack", fn := fun _ => fun
  | [d1, d2, d3] => { results := [.lit (.bool false)], args := [d1, d2, d3] }
  | _ => none }
def AllocBackWrongFalsely : Prop := allocBackRow.holds Try.pinned (OpenSpec.ofChange allocBackWrong)

/-- 'lamplighterlaw10.AllocAll': WHATEVER THE INPUT: true; the input reads as it did. -/
def allocAllSpec : ChangeSpec := { name := "allocAll", fn := fun _ => fun
  | [d1, d2] => { results := [.lit (.bool true)], args := [d1, d2] }
  | _ => none }
def allocAllRow : OpenClaim := { program := "ytjidfnogmedgnaa", sum := "2765df7d6dfe78f7083b6792ad5d40443494eef35f829c6f6043c7200e24762d", func := "lamplighter/lamplighterlaw10.AllocAll", spec := "allocAll", inPlace := ["slices.overlaps[int]"], apart := false }
def AllocAllSaid : Prop := allocAllRow.holds Try.pinned (OpenSpec.ofChange allocAllSpec)

/-- ITS FALSE NEIGHBOUR: 'it returns false'. Refute it at one input. -/
def allocAllWrong : ChangeSpec := { name := "allocAll", fn := fun _ => fun
  | [d1, d2] => { results := [.lit (.bool false)], args := [d1, d2] }
  | _ => none }
def AllocAllWrongFalsely : Prop := allocAllRow.holds Try.pinned (OpenSpec.ofChange allocAllWrong)

/-- 'lamplighterlaw10.AllocOnce': WHATEVER THE INPUT: true; the input reads as it did. -/
def allocOnceSpec : ChangeSpec := { name := "allocOnce", fn := fun _ => fun
  | [d1, d2] => { results := [.lit (.bool true)], args := [d1, d2] }
  | _ => none }
def allocOnceRow : OpenClaim := { program := "ytjidfnogmedgnaa", sum := "2765df7d6dfe78f7083b6792ad5d40443494eef35f829c6f6043c7200e24762d", func := "lamplighter/lamplighterlaw10.AllocOnce", spec := "allocOnce", inPlace := ["slices.overlaps[int]"], apart := false }
def AllocOnceSaid : Prop := allocOnceRow.holds Try.pinned (OpenSpec.ofChange allocOnceSpec)

/-- ITS FALSE NEIGHBOUR: 'it returns false'. Refute it at one input. -/
def allocOnceWrong : ChangeSpec := { name := "allocOnce", fn := fun _ => fun
  | [d1, d2] => { results := [.lit (.bool false)], args := [d1, d2] }
  | _ => none }
def AllocOnceWrongFalsely : Prop := allocOnceRow.holds Try.pinned (OpenSpec.ofChange allocOnceWrong)

/-- 'lamplighterlaw10.AllocParts': WHATEVER THE INPUT: true; the input reads as it did. -/
def allocPartsSpec : ChangeSpec := { name := "allocParts", fn := fun _ => fun
  | [d1, d2, d3] => { results := [.lit (.bool true)], args := [d1, d2, d3] }
  | _ => none }
def allocPartsRow : OpenClaim := { program := "ytjidfnogmedgnaa", sum := "2765df7d6dfe78f7083b6792ad5d40443494eef35f829c6f6043c7200e24762d", func := "lamplighter/lamplighterlaw10.AllocParts", spec := "allocParts", inPlace := ["slices.overlaps[int]"], apart := false }
def AllocPartsSaid : Prop := allocPartsRow.holds Try.pinned (OpenSpec.ofChange allocPartsSpec)

/-- ITS FALSE NEIGHBOUR: 'it returns false'. Refute it at one input. -/
def allocPartsWrong : ChangeSpec := { name := "allocParts", fn := fun _ => fun
  | [d1, d2, d3] => { results := [.lit (.bool false)], args := [d1, d2, d3] }
  | _ => none }
def AllocPartsWrongFalsely : Prop := allocPartsRow.holds Try.pinned (OpenSpec.ofChange allocPartsWrong)

/- THE SECOND FORM. 'bulk': how many values and letters a reading holds, each counted each time it is reached (what is shared counts as often as it is met; a slice's spare places count too). A statement '..UptoSaid' is the law's where the arguments, and the package variables that the reading takes, are together of bulk at most 1048576: NARROWER than '..Said'. Prove '..Said' where nothing that the law and all that it calls make is longer than what came in: it says more and counts as full. Else prove '..UptoSaid'. A law counts once. -/
mutual
def uptoBulk {H : Type} : DataW H → Nat
  | .lit (.string bytes) => bytes.length + 1
  | .lit _ => 1
  | .nil => 1
  | .ptr d => uptoBulk d + 1
  | .slice elems spare => uptoBulkAll elems + uptoBulkAll spare + 1
  | .agg parts => uptoBulkAll parts + 1
  | .iface _ d => uptoBulk d + 1
  | .map entries => uptoBulkEntries entries + 1
  | .held _ => 1
def uptoBulkAll {H : Type} : List (DataW H) → Nat
  | [] => 0
  | d :: r => uptoBulk d + uptoBulkAll r
def uptoBulkEntries {H : Type} : List (Lit × DataW H) → Nat
  | [] => 0
  | x :: r => uptoBulkEntry x + uptoBulkEntries r
def uptoBulkEntry {H : Type} : Lit × DataW H → Nat
  | (.string bytes, d) => bytes.length + uptoBulk d + 1
  | (_, d) => uptoBulk d + 1
 end
def uptoSmall : (H : Type) → List (DataW H) → Bool := fun _ ds => decide (uptoBulkAll ds ≤ 1048576)
def OpenSpec.upto (s : _root_.Go.ChangeSpec) : _root_.Go.OpenSpec := { _root_.Go.OpenSpec.ofChange s with cond := some uptoSmall }

/-- 'lamplighterlaw10.AllocTells', WHERE WHAT IT READS IS OF BULK AT MOST 1048576: true; the input reads as it did. -/
def allocTellsUptoRow : OpenClaim := { program := "ytjidfnogmedgnaa", sum := "2765df7d6dfe78f7083b6792ad5d40443494eef35f829c6f6043c7200e24762d", func := "lamplighter/lamplighterlaw10.AllocTells", spec := "allocTells", inPlace := ["slices.overlaps[int]"], apart := false, narrowed := true }
def AllocTellsUptoSaid : Prop := allocTellsUptoRow.holds Try.pinned (OpenSpec.upto allocTellsSpec)

/-- 'lamplighterlaw10.AllocBack', WHERE WHAT IT READS IS OF BULK AT MOST 1048576: true; the input reads as it did. -/
def allocBackUptoRow : OpenClaim := { program := "ytjidfnogmedgnaa", sum := "2765df7d6dfe78f7083b6792ad5d40443494eef35f829c6f6043c7200e24762d", func := "lamplighter/lamplighterlaw10.AllocBack", spec := "allocBack", inPlace := ["slices.overlaps[int]"], apart := false, narrowed := true }
def AllocBackUptoSaid : Prop := allocBackUptoRow.holds Try.pinned (OpenSpec.upto allocBackSpec)

/-- 'lamplighterlaw10.AllocAll', WHERE WHAT IT READS IS OF BULK AT MOST 1048576: true; the input reads as it did. -/
def allocAllUptoRow : OpenClaim := { program := "ytjidfnogmedgnaa", sum := "2765df7d6dfe78f7083b6792ad5d40443494eef35f829c6f6043c7200e24762d", func := "lamplighter/lamplighterlaw10.AllocAll", spec := "allocAll", inPlace := ["slices.overlaps[int]"], apart := false, narrowed := true }
def AllocAllUptoSaid : Prop := allocAllUptoRow.holds Try.pinned (OpenSpec.upto allocAllSpec)

/-- 'lamplighterlaw10.AllocOnce', WHERE WHAT IT READS IS OF BULK AT MOST 1048576: true; the input reads as it did. -/
def allocOnceUptoRow : OpenClaim := { program := "ytjidfnogmedgnaa", sum := "2765df7d6dfe78f7083b6792ad5d40443494eef35f829c6f6043c7200e24762d", func := "lamplighter/lamplighterlaw10.AllocOnce", spec := "allocOnce", inPlace := ["slices.overlaps[int]"], apart := false, narrowed := true }
def AllocOnceUptoSaid : Prop := allocOnceUptoRow.holds Try.pinned (OpenSpec.upto allocOnceSpec)

/-- 'lamplighterlaw10.AllocParts', WHERE WHAT IT READS IS OF BULK AT MOST 1048576: true; the input reads as it did. -/
def allocPartsUptoRow : OpenClaim := { program := "ytjidfnogmedgnaa", sum := "2765df7d6dfe78f7083b6792ad5d40443494eef35f829c6f6043c7200e24762d", func := "lamplighter/lamplighterlaw10.AllocParts", spec := "allocParts", inPlace := ["slices.overlaps[int]"], apart := false, narrowed := true }
def AllocPartsUptoSaid : Prop := allocPartsUptoRow.holds Try.pinned (OpenSpec.upto allocPartsSpec)

end Rows
end Go.Proofs.Ytjidfnogmedgnaa
