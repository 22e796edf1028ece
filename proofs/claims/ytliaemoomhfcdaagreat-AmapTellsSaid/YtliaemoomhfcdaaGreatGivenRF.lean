/- The contracts of the reference's readings of a node and of a record, in the printed texts' own form. -/
import Derived.Test.YtliaemoomhfcdaaGreatRefRW
namespace Go.Proofs.YtliaemoomhfcdaaGreat.RF
open Go.RowKit Go.Proofs.YtliaemoomhfcdaaGreatW.PrintWords
set_option linter.unusedVariables false
set_option linter.unusedSimpArgs false
section

def lamplighterref09_Read.f (l0 : List Int) (a1 : Int) : Option (Int × Int × Int × Int × List Int × Int) := if l0.length ≤ 60000 then some (PNode.flat (nodeRead l0 a1)) else none
theorem lamplighterref09_Read.calls (A0 : Option Addr) (c0 : Nat) (l0 : List Int) (a1 : Int) (r1 : Int) (r2 : Int) (r3 : Int) (r4 : Int) (r5 : List Int) (r6 : Int) (w : World) (hr0 : Kd.C (Kd.int .i64) w A0 l0.length l0) (hc0 : l0.length ≤ c0) (h : lamplighterref09_Read.f l0 a1 = some (r1, r2, r3, r4, r5, r6)) :
    Calls Tryz.prog 51 #[.slice A0 l0.length c0, .int .i64 a1] w fun e w' => ∃ v4_ : Value, e = .returned (.tuple #[.agg #[.int .i64 r1, .int .i64 r2, .int .i64 r3, .int .i64 r4, v4_], .int .i64 r6]) ∧ Kd.R (Kd.int .i64) 3 w' w.heap.size (fun _ => True) v4_ r5 ∧ Below w.heap.size w w' := by
  unfold lamplighterref09_Read.f at h
  split at h
  · rename_i hs
    injection h with h
    unfold PNode.flat at h
    injection h with h1 h
    injection h with h2 h
    injection h with h3 h
    injection h with h4 h
    injection h with h5 h6
    subst h1 h2 h3 h4 h5 h6
    exact rnode_any A0 c0 l0 a1 w (RI_of_C hr0) hs hc0
  · cases h
def PRec.flat (r : PRec × Int) : Int × ByteArray × ByteArray × Int × Int := (r.1.kind, r.1.key, r.1.val, r.1.child, r.2)
def lamplighterref07_Read.f (l0 : List Int) (a1 : Int) : Option (Int × ByteArray × ByteArray × Int × Int) := if l0.length ≤ 60000 then some (PRec.flat (recRead l0 a1)) else none
theorem lamplighterref07_Read.calls (A0 : Option Addr) (c0 : Nat) (l0 : List Int) (a1 : Int) (r1 : Int) (r2 : ByteArray) (r3 : ByteArray) (r4 : Int) (r5 : Int) (w : World) (hr0 : Kd.C (Kd.int .i64) w A0 l0.length l0) (hc0 : l0.length ≤ c0) (h : lamplighterref07_Read.f l0 a1 = some (r1, r2, r3, r4, r5)) :
    Calls Tryz.prog 56 #[.slice A0 l0.length c0, .int .i64 a1] w fun e w' => e = .returned (.tuple #[.agg #[.int .i64 r1, .string r2, .string r3, .int .i64 r4], .int .i64 r5]) ∧ Below w.heap.size w w' := by
  unfold lamplighterref07_Read.f at h
  split at h
  · rename_i hs
    injection h with h
    unfold PRec.flat at h
    injection h with h1 h
    injection h with h2 h
    injection h with h3 h
    injection h with h4 h5
    subst h1 h2 h3 h4 h5
    exact rrec_any A0 c0 l0 a1 w (RI_of_C hr0) hs hc0
  · cases h
end
end Go.Proofs.YtliaemoomhfcdaaGreat.RF
