/-
  No cell of these rows narrows 'for every input' (looked for: loops, veiled, ifaces, maps, wideKeys, modest, calm, conditions, laid).
  DERIVED. THE GIVEN ROWS OF THIS SEAT. 5 by the template 'for every input the law returns true; each argument reads behind the call as it read before'; 0 by the template 'total and deterministic' (their statements: YtdblecmelmeibaaTotals.lean).
  GIVEN WITH THE SEED: the statements are not yours to turn. If you find one false, say at which input.
  Laid BY PROGRAM, IN A SANDBOX (cutbox-rows.mjs): the forced cells as the released guide's own fill.sh prints them over the translation 092d157d77a8f812… (all of the seat's roots in one cut). By AI agents, Wed Nov 11 2026. No macro, syntax, notation, axiom, sorry.
-/
import Derived.Test.YtdblecmelmeibaaChecked
import GoSem.Claim
import GoSem.ClaimJoined
import GoSem.ClaimMapViews
import Derived.JoinedTies
import Derived.KernelRfl
namespace Go.Proofs.Ytdblecmelmeibaa
/- THE CELL 'sum', in the pinned program and in every row, IS THE sha256 OF THE DUMP (.gsa) THAT YtdblecmelmeibaaProg.lean LOADS. Nothing in Lean hashes anything: it is a label: what it is worth is what the hold of that sum in a sandbox is worth. -/
noncomputable def Try.pinned : Pinned := { name := "ytdblecmelmeibaa", sum := "092d157d77a8f812f91c9b9a15a20fd6d99301b93d0062eb73b95d2a2b9876fe", checked := Try.checked }
namespace Rows
def none {H : Type} : Left H := { results := [], args := [] }

/-- 'lamplighterlaw22.LinTells': WHATEVER THE INPUT: true; the input reads as it did. -/
def linTellsSpec : ChangeSpec := { name := "linTells", fn := fun _ => fun
  | [d1, d2, d3, d4, d5, d6, d7] => { results := [.lit (.bool true)], args := [d1, d2, d3, d4, d5, d6, d7] }
  | _ => none }
def linTellsRow : OpenClaim := { program := "ytdblecmelmeibaa", sum := "092d157d77a8f812f91c9b9a15a20fd6d99301b93d0062eb73b95d2a2b9876fe", func := "lamplighter/lamplighterlaw22.LinTells", spec := "linTells", unfollowed := true, recurses := true, plainKeys := false, apart := false }
def LinTellsSaid : Prop := linTellsRow.holds Try.pinned (OpenSpec.ofChange linTellsSpec)

/-- ITS FALSE NEIGHBOUR: 'it returns false'. Refute it at one input. -/
def linTellsWrong : ChangeSpec := { name := "linTells", fn := fun _ => fun
  | [d1, d2, d3, d4, d5, d6, d7] => { results := [.lit (.bool false)], args := [d1, d2, d3, d4, d5, d6, d7] }
  | _ => none }
def LinTellsWrongFalsely : Prop := linTellsRow.holds Try.pinned (OpenSpec.ofChange linTellsWrong)

/-- 'lamplighterlaw22.LinDone': WHATEVER THE INPUT: true; the input reads as it did. -/
def linDoneSpec : ChangeSpec := { name := "linDone", fn := fun _ => fun
  | [d1, d2] => { results := [.lit (.bool true)], args := [d1, d2] }
  | _ => none }
def linDoneRow : OpenClaim := { program := "ytdblecmelmeibaa", sum := "092d157d77a8f812f91c9b9a15a20fd6d99301b93d0062eb73b95d2a2b9876fe", func := "lamplighter/lamplighterlaw22.LinDone", spec := "linDone", unfollowed := true, recurses := true, plainKeys := false, apart := false }
def LinDoneSaid : Prop := linDoneRow.holds Try.pinned (OpenSpec.ofChange linDoneSpec)

/-- ITS FALSE NEIGHBOUR: 'it returns false'. Refute it at one input. -/
def linDoneWrong : ChangeSpec := { name := "linDone", fn := fun _ => fun
  | [d1, d2] => { results := [.lit (.bool false)], args := [d1, d2] }
  | _ => none }
def LinDoneWrongFalsely : Prop := linDoneRow.holds Try.pinned (OpenSpec.ofChange linDoneWrong)

/-- 'lamplighterlaw22.LinMore': WHATEVER THE INPUT: true; the input reads as it did. -/
def linMoreSpec : ChangeSpec := { name := "linMore", fn := fun _ => fun
  | [d1, d2, d3, d4, d5, d6, d7] => { results := [.lit (.bool true)], args := [d1, d2, d3, d4, d5, d6, d7] }
  | _ => none }
def linMoreRow : OpenClaim := { program := "ytdblecmelmeibaa", sum := "092d157d77a8f812f91c9b9a15a20fd6d99301b93d0062eb73b95d2a2b9876fe", func := "lamplighter/lamplighterlaw22.LinMore", spec := "linMore", unfollowed := true, recurses := true, plainKeys := false, apart := false }
def LinMoreSaid : Prop := linMoreRow.holds Try.pinned (OpenSpec.ofChange linMoreSpec)

/-- ITS FALSE NEIGHBOUR: 'it returns false'. Refute it at one input. -/
def linMoreWrong : ChangeSpec := { name := "linMore", fn := fun _ => fun
  | [d1, d2, d3, d4, d5, d6, d7] => { results := [.lit (.bool false)], args := [d1, d2, d3, d4, d5, d6, d7] }
  | _ => none }
def LinMoreWrongFalsely : Prop := linMoreRow.holds Try.pinned (OpenSpec.ofChange linMoreWrong)

/-- 'lamplighterlaw22.LinNone': WHATEVER THE INPUT: true; the input reads as it did. -/
def linNoneSpec : ChangeSpec := { name := "linNone", fn := fun _ => fun
  | [d1, d2, d3, d4, d5] => { results := [.lit (.bool true)], args := [d1, d2, d3, d4, d5] }
  | _ => none }
def linNoneRow : OpenClaim := { program := "ytdblecmelmeibaa", sum := "092d157d77a8f812f91c9b9a15a20fd6d99301b93d0062eb73b95d2a2b9876fe", func := "lamplighter/lamplighterlaw22.LinNone", spec := "linNone", unfollowed := true, recurses := true, plainKeys := false, apart := false }
def LinNoneSaid : Prop := linNoneRow.holds Try.pinned (OpenSpec.ofChange linNoneSpec)

/-- ITS FALSE NEIGHBOUR: 'it returns false'. Refute it at one input. -/
def linNoneWrong : ChangeSpec := { name := "linNone", fn := fun _ => fun
  | [d1, d2, d3, d4, d5] => { results := [.lit (.bool false)], args := [d1, d2, d3, d4, d5] }
  | _ => none }
def LinNoneWrongFalsely : Prop := linNoneRow.holds Try.pinned (OpenSpec.ofChange linNoneWrong)

/-- 'lamplighterlaw22.LinApart': WHATEVER THE INPUT: true; the input reads as it did. -/
def linApartSpec : ChangeSpec := { name := "linApart", fn := fun _ => fun
  | [d1, d2, d3, d4, d5, d6, d7] => { results := [.lit (.bool true)], args := [d1, d2, d3, d4, d5, d6, d7] }
  | _ => none }
def linApartRow : OpenClaim := { program := "ytdblecmelmeibaa", sum := "092d157d77a8f812f91c9b9a15a20fd6d99301b93d0062eb73b95d2a2b9876fe", func := "lamplighter/lamplighterlaw22.LinApart", spec := "linApart", unfollowed := true, recurses := true, plainKeys := false, apart := false }
def LinApartSaid : Prop := linApartRow.holds Try.pinned (OpenSpec.ofChange linApartSpec)

/-- ITS FALSE NEIGHBOUR: 'it returns false'. Refute it at one input. -/
def linApartWrong : ChangeSpec := { name := "linApart", fn := fun _ => fun
  | [d1, d2, d3, d4, d5, d6, d7] => { results := [.lit (.bool false)], args := [d1, d2, d3, d4, d5, d6, d7] }
  | _ => none }
def LinApartWrongFalsely : Prop := linApartRow.holds Try.pinned (OpenSpec.ofChange linApartWrong)

/- THE SECOND FORM. 'bulk': how many values and letters a reading holds, each counted each time it is reached (what is shared counts as often as it is met; a slice's spare places count too). A statement '..UptoSaid' is the law's where the arguments, and the package variables that the reading takes, are together of bulk at most 1048576: NARROWER than '..Said'. Prove '..Said' where nothing that the law and all that it calls make is longer than what came in: it says more and counts as full. Else prove '..UptoSaid'. A law counts once. -/
mutual
def uptoBulk {H : Type} : DataW H → Nat
  | .lit (.string bytes) => bytes.length + 1
  | .lit _ => 1
  | .nil => 1
  | .ptr d => uptoBulk d + 1
  | .slice elems spare => uptoBulkAll elems + uptoBulkAll spare + 1
  | .agg parts => uptoBulkAll parts + 1
  | .iface _ d => uptoBulk d + 1
  | .map entries => uptoBulkEntries entries + 1
  | .held _ => 1
def uptoBulkAll {H : Type} : List (DataW H) → Nat
  | [] => 0
  | d :: r => uptoBulk d + uptoBulkAll r
def uptoBulkEntries {H : Type} : List (Lit × DataW H) → Nat
  | [] => 0
  | x :: r => uptoBulkEntry x + uptoBulkEntries r
def uptoBulkEntry {H : Type} : Lit × DataW H → Nat
  | (.string bytes, d) => bytes.length + uptoBulk d + 1
  | (_, d) => uptoBulk d + 1
 end
def uptoSmall : (H : Type) → List (DataW H) → Bool := fun _ ds => decide (uptoBulkAll ds ≤ 1048576)
def OpenSpec.upto (s : _root_.Go.ChangeSpec) : _root_.Go.OpenSpec := { _root_.Go.OpenSpec.ofChange s with cond := some uptoSmall }

/-- 'lamplighterlaw22.LinTells', WHERE WHAT IT READS IS OF BULK AT MOST 1048576: true; the input reads as it did. -/
def linTellsUptoRow : OpenClaim := { program := "ytdblecmelmeibaa", sum := "092d157d77a8f812f91c9b9a15a20fd6d99301b93d0062eb73b95d2a2b9876fe", func := "lamplighter/lamplighterlaw22.LinTells", spec := "linTells", unfollowed := true, recurses := true, plainKeys := false, apart := false, narrowed := true }
def LinTellsUptoSaid : Prop := linTellsUptoRow.holds Try.pinned (OpenSpec.upto linTellsSpec)

/-- 'lamplighterlaw22.LinDone', WHERE WHAT IT READS IS OF BULK AT MOST 1048576: true; the input reads as it did. -/
def linDoneUptoRow : OpenClaim := { program := "ytdblecmelmeibaa", sum := "092d157d77a8f812f91c9b9a15a20fd6d99301b93d0062eb73b95d2a2b9876fe", func := "lamplighter/lamplighterlaw22.LinDone", spec := "linDone", unfollowed := true, recurses := true, plainKeys := false, apart := false, narrowed := true }
def LinDoneUptoSaid : Prop := linDoneUptoRow.holds Try.pinned (OpenSpec.upto linDoneSpec)

/-- 'lamplighterlaw22.LinMore', WHERE WHAT IT READS IS OF BULK AT MOST 1048576: true; the input reads as it did. -/
def linMoreUptoRow : OpenClaim := { program := "ytdblecmelmeibaa", sum := "092d157d77a8f812f91c9b9a15a20fd6d99301b93d0062eb73b95d2a2b9876fe", func := "lamplighter/lamplighterlaw22.LinMore", spec := "linMore", unfollowed := true, recurses := true, plainKeys := false, apart := false, narrowed := true }
def LinMoreUptoSaid : Prop := linMoreUptoRow.holds Try.pinned (OpenSpec.upto linMoreSpec)

/-- 'lamplighterlaw22.LinNone', WHERE WHAT IT READS IS OF BULK AT MOST 1048576: true; the input reads as it did. -/
def linNoneUptoRow : OpenClaim := { program := "ytdblecmelmeibaa", sum := "092d157d77a8f812f91c9b9a15a20fd6d99301b93d0062eb73b95d2a2b9876fe", func := "lamplighter/lamplighterlaw22.LinNone", spec := "linNone", unfollowed := true, recurses := true, plainKeys := false, apart := false, narrowed := true }
def LinNoneUptoSaid : Prop := linNoneUptoRow.holds Try.pinned (OpenSpec.upto linNoneSpec)

/-- 'lamplighterlaw22.LinApart', WHERE WHAT IT READS IS OF BULK AT MOST 1048576: true; the input reads as it did. -/
def linApartUptoRow : OpenClaim := { program := "ytdblecmelmeibaa", sum := "092d157d77a8f812f91c9b9a15a20fd6d99301b93d0062eb73b95d2a2b9876fe", func := "lamplighter/lamplighterlaw22.LinApart", spec := "linApart", unfollowed := true, recurses := true, plainKeys := false, apart := false, narrowed := true }
def LinApartUptoSaid : Prop := linApartUptoRow.holds Try.pinned (OpenSpec.upto linApartSpec)

end Rows
end Go.Proofs.Ytdblecmelmeibaa
