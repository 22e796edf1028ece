/-
  No cell of these rows narrows 'for every input' (looked for: loops, veiled, ifaces, maps, wideKeys, modest, calm, conditions, laid).
  DERIVED. THE GIVEN ROWS OF THIS SEAT. 11 by the template 'for every input the law returns true; each argument reads behind the call as it read before'; 0 by the template 'total and deterministic' (their statements: YtliaemoomhfcdaaTotals.lean).
  GIVEN WITH THE SEED: the statements are not yours to turn. If you find one false, say at which input.
  Laid BY PROGRAM, IN A SANDBOX (cutbox-rows.mjs): the forced cells as the released guide's own fill.sh prints them over the translation 69cb6a6adf7d591b… (all of the seat's roots in one cut). By AI agents, Wed Nov 11 2026. No macro, syntax, notation, axiom, sorry.
-/
import Derived.Test.YtliaemoomhfcdaaChecked
import GoSem.Claim
import GoSem.ClaimJoined
import GoSem.ClaimMapViews
import Derived.JoinedTies
import Derived.KernelRfl
namespace Go.Proofs.Ytliaemoomhfcdaa
/- THE CELL 'sum', in the pinned program and in every row, IS THE sha256 OF THE DUMP (.gsa) THAT YtliaemoomhfcdaaProg.lean LOADS. Nothing in Lean hashes anything: it is a label: what it is worth is what the hold of that sum in a sandbox is worth. -/
noncomputable def Try.pinned : Pinned := { name := "ytliaemoomhfcdaa", sum := "69cb6a6adf7d591bb4ca0e0edb6135c53d212102f5e86f85ab9491f5afc73e81", checked := Try.checked }
namespace Rows
def none {H : Type} : Left H := { results := [], args := [] }

/-- 'lamplighterlaw15.IndexTells': WHATEVER THE INPUT: true; the input reads as it did. -/
def indexTellsSpec : ChangeSpec := { name := "indexTells", fn := fun _ => fun
  | [d1, d2, d3, d4, d5] => { results := [.lit (.bool true)], args := [d1, d2, d3, d4, d5] }
  | _ => none }
def indexTellsRow : OpenClaim := { program := "ytliaemoomhfcdaa", sum := "69cb6a6adf7d591bb4ca0e0edb6135c53d212102f5e86f85ab9491f5afc73e81", func := "lamplighter/lamplighterlaw15.IndexTells", spec := "indexTells", unfollowed := true, recurses := true, apart := false }
def IndexTellsSaid : Prop := indexTellsRow.holds Try.pinned (OpenSpec.ofChange indexTellsSpec)

/-- ITS FALSE NEIGHBOUR: 'it returns false'. Refute it at one input. -/
def indexTellsWrong : ChangeSpec := { name := "indexTells", fn := fun _ => fun
  | [d1, d2, d3, d4, d5] => { results := [.lit (.bool false)], args := [d1, d2, d3, d4, d5] }
  | _ => none }
def IndexTellsWrongFalsely : Prop := indexTellsRow.holds Try.pinned (OpenSpec.ofChange indexTellsWrong)

/-- 'lamplighterlaw15.IndexStays': WHATEVER THE INPUT: true; the input reads as it did. -/
def indexStaysSpec : ChangeSpec := { name := "indexStays", fn := fun _ => fun
  | [d1, d2, d3, d4] => { results := [.lit (.bool true)], args := [d1, d2, d3, d4] }
  | _ => none }
def indexStaysRow : OpenClaim := { program := "ytliaemoomhfcdaa", sum := "69cb6a6adf7d591bb4ca0e0edb6135c53d212102f5e86f85ab9491f5afc73e81", func := "lamplighter/lamplighterlaw15.IndexStays", spec := "indexStays", unfollowed := true, recurses := true, apart := false }
def IndexStaysSaid : Prop := indexStaysRow.holds Try.pinned (OpenSpec.ofChange indexStaysSpec)

/-- ITS FALSE NEIGHBOUR: 'it returns false'. Refute it at one input. -/
def indexStaysWrong : ChangeSpec := { name := "indexStays", fn := fun _ => fun
  | [d1, d2, d3, d4] => { results := [.lit (.bool false)], args := [d1, d2, d3, d4] }
  | _ => none }
def IndexStaysWrongFalsely : Prop := indexStaysRow.holds Try.pinned (OpenSpec.ofChange indexStaysWrong)

/-- 'lamplighterlaw15.IndexLows': WHATEVER THE INPUT: true; the input reads as it did. -/
def indexLowsSpec : ChangeSpec := { name := "indexLows", fn := fun _ => fun
  | [d] => { results := [.lit (.bool true)], args := [d] }
  | _ => none }
def indexLowsRow : OpenClaim := { program := "ytliaemoomhfcdaa", sum := "69cb6a6adf7d591bb4ca0e0edb6135c53d212102f5e86f85ab9491f5afc73e81", func := "lamplighter/lamplighterlaw15.IndexLows", spec := "indexLows", unfollowed := true, recurses := true, apart := false }
def IndexLowsSaid : Prop := indexLowsRow.holds Try.pinned (OpenSpec.ofChange indexLowsSpec)

/-- ITS FALSE NEIGHBOUR: 'it returns false'. Refute it at one input. -/
def indexLowsWrong : ChangeSpec := { name := "indexLows", fn := fun _ => fun
  | [d] => { results := [.lit (.bool false)], args := [d] }
  | _ => none }
def IndexLowsWrongFalsely : Prop := indexLowsRow.holds Try.pinned (OpenSpec.ofChange indexLowsWrong)

/-- 'lamplighterlaw15.IndexFinds': WHATEVER THE INPUT: true; the input reads as it did. -/
def indexFindsSpec : ChangeSpec := { name := "indexFinds", fn := fun _ => fun
  | [d1, d2, d3] => { results := [.lit (.bool true)], args := [d1, d2, d3] }
  | _ => none }
def indexFindsRow : OpenClaim := { program := "ytliaemoomhfcdaa", sum := "69cb6a6adf7d591bb4ca0e0edb6135c53d212102f5e86f85ab9491f5afc73e81", func := "lamplighter/lamplighterlaw15.IndexFinds", spec := "indexFinds", unfollowed := true, recurses := true, apart := false }
def IndexFindsSaid : Prop := indexFindsRow.holds Try.pinned (OpenSpec.ofChange indexFindsSpec)

/-- ITS FALSE NEIGHBOUR: 'it returns false'. Refute it at one input. -/
def indexFindsWrong : ChangeSpec := { name := "indexFinds", fn := fun _ => fun
  | [d1, d2, d3] => { results := [.lit (.bool false)], args := [d1, d2, d3] }
  | _ => none }
def IndexFindsWrongFalsely : Prop := indexFindsRow.holds Try.pinned (OpenSpec.ofChange indexFindsWrong)

/-- 'lamplighterlaw15.IndexSoundTells': WHATEVER THE INPUT: true; the input reads as it did. -/
def indexSoundTellsSpec : ChangeSpec := { name := "indexSoundTells", fn := fun _ => fun
  | [d] => { results := [.lit (.bool true)], args := [d] }
  | _ => none }
def indexSoundTellsRow : OpenClaim := { program := "ytliaemoomhfcdaa", sum := "69cb6a6adf7d591bb4ca0e0edb6135c53d212102f5e86f85ab9491f5afc73e81", func := "lamplighter/lamplighterlaw15.IndexSoundTells", spec := "indexSoundTells", unfollowed := true, recurses := true, apart := false }
def IndexSoundTellsSaid : Prop := indexSoundTellsRow.holds Try.pinned (OpenSpec.ofChange indexSoundTellsSpec)

/-- ITS FALSE NEIGHBOUR: 'it returns false'. Refute it at one input. -/
def indexSoundTellsWrong : ChangeSpec := { name := "indexSoundTells", fn := fun _ => fun
  | [d] => { results := [.lit (.bool false)], args := [d] }
  | _ => none }
def IndexSoundTellsWrongFalsely : Prop := indexSoundTellsRow.holds Try.pinned (OpenSpec.ofChange indexSoundTellsWrong)

/-- 'lamplighterlaw15.IndexRoots': WHATEVER THE INPUT: true; the input reads as it did. -/
def indexRootsSpec : ChangeSpec := { name := "indexRoots", fn := fun _ => fun
  | [d1, d2] => { results := [.lit (.bool true)], args := [d1, d2] }
  | _ => none }
def indexRootsRow : OpenClaim := { program := "ytliaemoomhfcdaa", sum := "69cb6a6adf7d591bb4ca0e0edb6135c53d212102f5e86f85ab9491f5afc73e81", func := "lamplighter/lamplighterlaw15.IndexRoots", spec := "indexRoots", unfollowed := true, recurses := true, apart := false }
def IndexRootsSaid : Prop := indexRootsRow.holds Try.pinned (OpenSpec.ofChange indexRootsSpec)

/-- ITS FALSE NEIGHBOUR: 'it returns false'. Refute it at one input. -/
def indexRootsWrong : ChangeSpec := { name := "indexRoots", fn := fun _ => fun
  | [d1, d2] => { results := [.lit (.bool false)], args := [d1, d2] }
  | _ => none }
def IndexRootsWrongFalsely : Prop := indexRootsRow.holds Try.pinned (OpenSpec.ofChange indexRootsWrong)

/-- 'lamplighterlaw12.AmapRises': WHATEVER THE INPUT: true; the input reads as it did. -/
def amapRisesSpec : ChangeSpec := { name := "amapRises", fn := fun _ => fun
  | [d] => { results := [.lit (.bool true)], args := [d] }
  | _ => none }
def amapRisesRow : OpenClaim := { program := "ytliaemoomhfcdaa", sum := "69cb6a6adf7d591bb4ca0e0edb6135c53d212102f5e86f85ab9491f5afc73e81", func := "lamplighter/lamplighterlaw12.AmapRises", spec := "amapRises", inPlace := ["slices.overlaps[lamplighter/api.Pair]"], unfollowed := true, recurses := true, apart := false }
def AmapRisesSaid : Prop := amapRisesRow.holds Try.pinned (OpenSpec.ofChange amapRisesSpec)

/-- ITS FALSE NEIGHBOUR: 'it returns false'. Refute it at one input. -/
def amapRisesWrong : ChangeSpec := { name := "amapRises", fn := fun _ => fun
  | [d] => { results := [.lit (.bool false)], args := [d] }
  | _ => none }
def AmapRisesWrongFalsely : Prop := amapRisesRow.holds Try.pinned (OpenSpec.ofChange amapRisesWrong)

/-- 'lamplighterlaw12.AmapWrites': WHATEVER THE INPUT: true; the input reads as it did. -/
def amapWritesSpec : ChangeSpec := { name := "amapWrites", fn := fun _ => fun
  | [d1, d2, d3, d4] => { results := [.lit (.bool true)], args := [d1, d2, d3, d4] }
  | _ => none }
def amapWritesRow : OpenClaim := { program := "ytliaemoomhfcdaa", sum := "69cb6a6adf7d591bb4ca0e0edb6135c53d212102f5e86f85ab9491f5afc73e81", func := "lamplighter/lamplighterlaw12.AmapWrites", spec := "amapWrites", inPlace := ["slices.overlaps[lamplighter/api.Pair]"], unfollowed := true, recurses := true, apart := false }
def AmapWritesSaid : Prop := amapWritesRow.holds Try.pinned (OpenSpec.ofChange amapWritesSpec)

/-- ITS FALSE NEIGHBOUR: 'it returns false'. Refute it at one input. -/
def amapWritesWrong : ChangeSpec := { name := "amapWrites", fn := fun _ => fun
  | [d1, d2, d3, d4] => { results := [.lit (.bool false)], args := [d1, d2, d3, d4] }
  | _ => none }
def AmapWritesWrongFalsely : Prop := amapWritesRow.holds Try.pinned (OpenSpec.ofChange amapWritesWrong)

/-- 'lamplighterlaw12.AmapTurns': WHATEVER THE INPUT: true; the input reads as it did. -/
def amapTurnsSpec : ChangeSpec := { name := "amapTurns", fn := fun _ => fun
  | [d1, d2, d3, d4] => { results := [.lit (.bool true)], args := [d1, d2, d3, d4] }
  | _ => none }
def amapTurnsRow : OpenClaim := { program := "ytliaemoomhfcdaa", sum := "69cb6a6adf7d591bb4ca0e0edb6135c53d212102f5e86f85ab9491f5afc73e81", func := "lamplighter/lamplighterlaw12.AmapTurns", spec := "amapTurns", inPlace := ["slices.overlaps[lamplighter/api.Pair]"], unfollowed := true, recurses := true, apart := false }
def AmapTurnsSaid : Prop := amapTurnsRow.holds Try.pinned (OpenSpec.ofChange amapTurnsSpec)

/-- ITS FALSE NEIGHBOUR: 'it returns false'. Refute it at one input. -/
def amapTurnsWrong : ChangeSpec := { name := "amapTurns", fn := fun _ => fun
  | [d1, d2, d3, d4] => { results := [.lit (.bool false)], args := [d1, d2, d3, d4] }
  | _ => none }
def AmapTurnsWrongFalsely : Prop := amapTurnsRow.holds Try.pinned (OpenSpec.ofChange amapTurnsWrong)

/-- 'lamplighterlaw12.AmapLeaves': WHATEVER THE INPUT: true; the input reads as it did. -/
def amapLeavesSpec : ChangeSpec := { name := "amapLeaves", fn := fun _ => fun
  | [d1, d2] => { results := [.lit (.bool true)], args := [d1, d2] }
  | _ => none }
def amapLeavesRow : OpenClaim := { program := "ytliaemoomhfcdaa", sum := "69cb6a6adf7d591bb4ca0e0edb6135c53d212102f5e86f85ab9491f5afc73e81", func := "lamplighter/lamplighterlaw12.AmapLeaves", spec := "amapLeaves", inPlace := ["slices.overlaps[lamplighter/api.Pair]"], unfollowed := true, recurses := true, apart := false }
def AmapLeavesSaid : Prop := amapLeavesRow.holds Try.pinned (OpenSpec.ofChange amapLeavesSpec)

/-- ITS FALSE NEIGHBOUR: 'it returns false'. Refute it at one input. -/
def amapLeavesWrong : ChangeSpec := { name := "amapLeaves", fn := fun _ => fun
  | [d1, d2] => { results := [.lit (.bool false)], args := [d1, d2] }
  | _ => none }
def AmapLeavesWrongFalsely : Prop := amapLeavesRow.holds Try.pinned (OpenSpec.ofChange amapLeavesWrong)

/-- 'lamplighterlaw15.IndexPlaces': WHATEVER THE INPUT: true; the input reads as it did. -/
def indexPlacesSpec : ChangeSpec := { name := "indexPlaces", fn := fun _ => fun
  | [d1, d2, d3] => { results := [.lit (.bool true)], args := [d1, d2, d3] }
  | _ => none }
def indexPlacesRow : OpenClaim := { program := "ytliaemoomhfcdaa", sum := "69cb6a6adf7d591bb4ca0e0edb6135c53d212102f5e86f85ab9491f5afc73e81", func := "lamplighter/lamplighterlaw15.IndexPlaces", spec := "indexPlaces", inPlace := ["slices.overlaps[lamplighter/api.Pair]"], unfollowed := true, recurses := true, apart := false }
def IndexPlacesSaid : Prop := indexPlacesRow.holds Try.pinned (OpenSpec.ofChange indexPlacesSpec)

/-- ITS FALSE NEIGHBOUR: 'it returns false'. Refute it at one input. -/
def indexPlacesWrong : ChangeSpec := { name := "indexPlaces", fn := fun _ => fun
  | [d1, d2, d3] => { results := [.lit (.bool false)], args := [d1, d2, d3] }
  | _ => none }
def IndexPlacesWrongFalsely : Prop := indexPlacesRow.holds Try.pinned (OpenSpec.ofChange indexPlacesWrong)

/- THE SECOND FORM. 'bulk': how many values and letters a reading holds, each counted each time it is reached (what is shared counts as often as it is met; a slice's spare places count too). A statement '..UptoSaid' is the law's where the arguments, and the package variables that the reading takes, are together of bulk at most 1048576: NARROWER than '..Said'. Prove '..Said' where nothing that the law and all that it calls make is longer than what came in: it says more and counts as full. Else prove '..UptoSaid'. A law counts once. -/
mutual
def uptoBulk {H : Type} : DataW H → Nat
  | .lit (.string bytes) => bytes.length + 1
  | .lit _ => 1
  | .nil => 1
  | .ptr d => uptoBulk d + 1
  | .slice elems spare => uptoBulkAll elems + uptoBulkAll spare + 1
  | .agg parts => uptoBulkAll parts + 1
  | .iface _ d => uptoBulk d + 1
  | .map entries => uptoBulkEntries entries + 1
  | .held _ => 1
def uptoBulkAll {H : Type} : List (DataW H) → Nat
  | [] => 0
  | d :: r => uptoBulk d + uptoBulkAll r
def uptoBulkEntries {H : Type} : List (Lit × DataW H) → Nat
  | [] => 0
  | x :: r => uptoBulkEntry x + uptoBulkEntries r
def uptoBulkEntry {H : Type} : Lit × DataW H → Nat
  | (.string bytes, d) => bytes.length + uptoBulk d + 1
  | (_, d) => uptoBulk d + 1
 end
def uptoSmall : (H : Type) → List (DataW H) → Bool := fun _ ds => decide (uptoBulkAll ds ≤ 1048576)
def OpenSpec.upto (s : _root_.Go.ChangeSpec) : _root_.Go.OpenSpec := { _root_.Go.OpenSpec.ofChange s with cond := some uptoSmall }

/-- 'lamplighterlaw15.IndexTells', WHERE WHAT IT READS IS OF BULK AT MOST 1048576: true; the input reads as it did. -/
def indexTellsUptoRow : OpenClaim := { program := "ytliaemoomhfcdaa", sum := "69cb6a6adf7d591bb4ca0e0edb6135c53d212102f5e86f85ab9491f5afc73e81", func := "lamplighter/lamplighterlaw15.IndexTells", spec := "indexTells", unfollowed := true, recurses := true, apart := false, narrowed := true }
def IndexTellsUptoSaid : Prop := indexTellsUptoRow.holds Try.pinned (OpenSpec.upto indexTellsSpec)

/-- 'lamplighterlaw15.IndexStays', WHERE WHAT IT READS IS OF BULK AT MOST 1048576: true; the input reads as it did. -/
def indexStaysUptoRow : OpenClaim := { program := "ytliaemoomhfcdaa", sum := "69cb6a6adf7d591bb4ca0e0edb6135c53d212102f5e86f85ab9491f5afc73e81", func := "lamplighter/lamplighterlaw15.IndexStays", spec := "indexStays", unfollowed := true, recurses := true, apart := false, narrowed := true }
def IndexStaysUptoSaid : Prop := indexStaysUptoRow.holds Try.pinned (OpenSpec.upto indexStaysSpec)

/-- 'lamplighterlaw15.IndexLows', WHERE WHAT IT READS IS OF BULK AT MOST 1048576: true; the input reads as it did. -/
def indexLowsUptoRow : OpenClaim := { program := "ytliaemoomhfcdaa", sum := "69cb6a6adf7d591bb4ca0e0edb6135c53d212102f5e86f85ab9491f5afc73e81", func := "lamplighter/lamplighterlaw15.IndexLows", spec := "indexLows", unfollowed := true, recurses := true, apart := false, narrowed := true }
def IndexLowsUptoSaid : Prop := indexLowsUptoRow.holds Try.pinned (OpenSpec.upto indexLowsSpec)

/-- 'lamplighterlaw15.IndexFinds', WHERE WHAT IT READS IS OF BULK AT MOST 1048576: true; the input reads as it did. -/
def indexFindsUptoRow : OpenClaim := { program := "ytliaemoomhfcdaa", sum := "69cb6a6adf7d591bb4ca0e0edb6135c53d212102f5e86f85ab9491f5afc73e81", func := "lamplighter/lamplighterlaw15.IndexFinds", spec := "indexFinds", unfollowed := true, recurses := true, apart := false, narrowed := true }
def IndexFindsUptoSaid : Prop := indexFindsUptoRow.holds Try.pinned (OpenSpec.upto indexFindsSpec)

/-- 'lamplighterlaw15.IndexSoundTells', WHERE WHAT IT READS IS OF BULK AT MOST 1048576: true; the input reads as it did. -/
def indexSoundTellsUptoRow : OpenClaim := { program := "ytliaemoomhfcdaa", sum := "69cb6a6adf7d591bb4ca0e0edb6135c53d212102f5e86f85ab9491f5afc73e81", func := "lamplighter/lamplighterlaw15.IndexSoundTells", spec := "indexSoundTells", unfollowed := true, recurses := true, apart := false, narrowed := true }
def IndexSoundTellsUptoSaid : Prop := indexSoundTellsUptoRow.holds Try.pinned (OpenSpec.upto indexSoundTellsSpec)

/-- 'lamplighterlaw15.IndexRoots', WHERE WHAT IT READS IS OF BULK AT MOST 1048576: true; the input reads as it did. -/
def indexRootsUptoRow : OpenClaim := { program := "ytliaemoomhfcdaa", sum := "69cb6a6adf7d591bb4ca0e0edb6135c53d212102f5e86f85ab9491f5afc73e81", func := "lamplighter/lamplighterlaw15.IndexRoots", spec := "indexRoots", unfollowed := true, recurses := true, apart := false, narrowed := true }
def IndexRootsUptoSaid : Prop := indexRootsUptoRow.holds Try.pinned (OpenSpec.upto indexRootsSpec)

/-- 'lamplighterlaw12.AmapRises', WHERE WHAT IT READS IS OF BULK AT MOST 1048576: true; the input reads as it did. -/
def amapRisesUptoRow : OpenClaim := { program := "ytliaemoomhfcdaa", sum := "69cb6a6adf7d591bb4ca0e0edb6135c53d212102f5e86f85ab9491f5afc73e81", func := "lamplighter/lamplighterlaw12.AmapRises", spec := "amapRises", inPlace := ["slices.overlaps[lamplighter/api.Pair]"], unfollowed := true, recurses := true, apart := false, narrowed := true }
def AmapRisesUptoSaid : Prop := amapRisesUptoRow.holds Try.pinned (OpenSpec.upto amapRisesSpec)

/-- 'lamplighterlaw12.AmapWrites', WHERE WHAT IT READS IS OF BULK AT MOST 1048576: true; the input reads as it did. -/
def amapWritesUptoRow : OpenClaim := { program := "ytliaemoomhfcdaa", sum := "69cb6a6adf7d591bb4ca0e0edb6135c53d212102f5e86f85ab9491f5afc73e81", func := "lamplighter/lamplighterlaw12.AmapWrites", spec := "amapWrites", inPlace := ["slices.overlaps[lamplighter/api.Pair]"], unfollowed := true, recurses := true, apart := false, narrowed := true }
def AmapWritesUptoSaid : Prop := amapWritesUptoRow.holds Try.pinned (OpenSpec.upto amapWritesSpec)

/-- 'lamplighterlaw12.AmapTurns', WHERE WHAT IT READS IS OF BULK AT MOST 1048576: true; the input reads as it did. -/
def amapTurnsUptoRow : OpenClaim := { program := "ytliaemoomhfcdaa", sum := "69cb6a6adf7d591bb4ca0e0edb6135c53d212102f5e86f85ab9491f5afc73e81", func := "lamplighter/lamplighterlaw12.AmapTurns", spec := "amapTurns", inPlace := ["slices.overlaps[lamplighter/api.Pair]"], unfollowed := true, recurses := true, apart := false, narrowed := true }
def AmapTurnsUptoSaid : Prop := amapTurnsUptoRow.holds Try.pinned (OpenSpec.upto amapTurnsSpec)

/-- 'lamplighterlaw12.AmapLeaves', WHERE WHAT IT READS IS OF BULK AT MOST 1048576: true; the input reads as it did. -/
def amapLeavesUptoRow : OpenClaim := { program := "ytliaemoomhfcdaa", sum := "69cb6a6adf7d591bb4ca0e0edb6135c53d212102f5e86f85ab9491f5afc73e81", func := "lamplighter/lamplighterlaw12.AmapLeaves", spec := "amapLeaves", inPlace := ["slices.overlaps[lamplighter/api.Pair]"], unfollowed := true, recurses := true, apart := false, narrowed := true }
def AmapLeavesUptoSaid : Prop := amapLeavesUptoRow.holds Try.pinned (OpenSpec.upto amapLeavesSpec)

/-- 'lamplighterlaw15.IndexPlaces', WHERE WHAT IT READS IS OF BULK AT MOST 1048576: true; the input reads as it did. -/
def indexPlacesUptoRow : OpenClaim := { program := "ytliaemoomhfcdaa", sum := "69cb6a6adf7d591bb4ca0e0edb6135c53d212102f5e86f85ab9491f5afc73e81", func := "lamplighter/lamplighterlaw15.IndexPlaces", spec := "indexPlaces", inPlace := ["slices.overlaps[lamplighter/api.Pair]"], unfollowed := true, recurses := true, apart := false, narrowed := true }
def IndexPlacesUptoSaid : Prop := indexPlacesUptoRow.holds Try.pinned (OpenSpec.upto indexPlacesSpec)

end Rows
end Go.Proofs.Ytliaemoomhfcdaa
