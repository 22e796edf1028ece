/- The contracts of the reference's leaves, check, lows, and plain slots, in the printed texts' own form. -/
import Derived.Test.YtliaemoomhfcdaaGreatRefK
namespace Go.Proofs.YtliaemoomhfcdaaGreat.RK
open Go.RowKit Go.Proofs.YtliaemoomhfcdaaGreatW.PrintWords
set_option linter.unusedVariables false
set_option linter.unusedSimpArgs false
section

def lamplighterref11_Check.f (l0 : List Int) : Option Int := if l0.length ≤ 60000 then some (checkRead l0) else none
theorem lamplighterref11_Check.calls (A0 : Option Addr) (c0 : Nat) (l0 : List Int) (r1 : Int) (w : World) (hr0 : Kd.C (Kd.int .i64) w A0 l0.length l0) (hc0 : l0.length ≤ c0) (h : lamplighterref11_Check.f l0 = some r1) :
    Calls Tryz.prog 25 #[.slice A0 l0.length c0] w fun e w' => e = .returned (.int .i64 r1) ∧ Below w.heap.size w w' := by
  unfold lamplighterref11_Check.f at h
  split at h
  · rename_i hs
    injection h with h
    subst h
    rw [← rcheck_is]
    exact rchk_any A0 c0 l0 w (RI_of_C hr0) hs hc0
  · cases h
def lamplighterref11_Leaves.f (l0 : List Int) : Option (List Int × Int) := if l0.length ≤ 60000 then some (leavesAns l0) else none
theorem lamplighterref11_Leaves.calls (A0 : Option Addr) (c0 : Nat) (l0 : List Int) (r1 : List Int) (r2 : Int) (w : World) (hr0 : Kd.C (Kd.int .i64) w A0 l0.length l0) (hc0 : l0.length ≤ c0) (h : lamplighterref11_Leaves.f l0 = some (r1, r2)) :
    Calls Tryz.prog 26 #[.slice A0 l0.length c0] w fun e w' => ∃ v0_ : Value, e = .returned (.tuple #[v0_, .int .i64 r2]) ∧ Kd.R (Kd.int .i64) 3 w' w.heap.size (fun _ => True) v0_ r1 ∧ Below w.heap.size w w' := by
  unfold lamplighterref11_Leaves.f at h
  split at h
  · rename_i hs
    injection h with h
    have h1 : (leavesAns l0).1 = r1 := by rw [h]
    have h2 : (leavesAns l0).2 = r2 := by rw [h]
    subst h1 h2
    refine (rleaves_any A0 c0 l0 w (RI_of_C hr0) hs hc0).mono ?_
    rintro e w' ⟨v, rfl, ho, hb⟩
    exact ⟨v, rfl, R_of_ints ho, hb⟩
  · cases h
def lamplighterref11_Low.f (l0 : List Int) (a1 : Int) : Option (ByteArray × Int) := if l0.length ≤ 60000 then some (lowRead l0 a1) else none
theorem lamplighterref11_Low.calls (A0 : Option Addr) (c0 : Nat) (l0 : List Int) (a1 : Int) (r1 : ByteArray) (r2 : Int) (w : World) (hr0 : Kd.C (Kd.int .i64) w A0 l0.length l0) (hc0 : l0.length ≤ c0) (h : lamplighterref11_Low.f l0 a1 = some (r1, r2)) :
    Calls Tryz.prog 52 #[.slice A0 l0.length c0, .int .i64 a1] w fun e w' => e = .returned (.tuple #[.string r1, .int .i64 r2]) ∧ Below w.heap.size w w' := by
  unfold lamplighterref11_Low.f at h
  split at h
  · rename_i hs
    injection h with h
    have h1 : (lowRead l0 a1).1 = r1 := by rw [h]
    have h2 : (lowRead l0 a1).2 = r2 := by rw [h]
    subst h1 h2
    exact rlow_any A0 c0 l0 a1 w (RI_of_C hr0) hs hc0
  · cases h
def lamplighterref10_In.f (l0 : List Int) (a1 : Int) : Option Bool := if l0.length ≤ 1000000000 then some (l0.contains a1) else none
theorem lamplighterref10_In.calls (A0 : Option Addr) (c0 : Nat) (l0 : List Int) (a1 : Int) (r : Bool) (w : World) (hr0 : Kd.C (Kd.int .i64) w A0 l0.length l0) (hc0 : l0.length ≤ c0) (h : lamplighterref10_In.f l0 a1 = some r) :
    Calls Tryz.prog 27 #[.slice A0 l0.length c0, .int .i64 a1] w fun e w' => e = .returned (.bool r) ∧ Below w.heap.size w w' := by
  unfold lamplighterref10_In.f at h
  split at h
  · rename_i hs
    injection h with h
    subst h
    refine (rin_any A0 l0.length c0 l0 a1 w (RI_of_C hr0) hs).mono ?_
    rintro e w' ⟨rfl, rfl⟩
    exact ⟨rfl, Below.refl _ _⟩
  · cases h
def lamplighterref06_Plain.f (l0 : List Int) : Option (List Int) := if l0.length ≤ 1000000 then some (plainOf l0) else none
theorem lamplighterref06_Plain.calls (A0 : Option Addr) (c0 : Nat) (l0 : List Int) (r : List Int) (w : World) (hr0 : Kd.C (Kd.int .i64) w A0 l0.length l0) (hc0 : l0.length ≤ c0) (h : lamplighterref06_Plain.f l0 = some r) :
    Calls Tryz.prog 55 #[.slice A0 l0.length c0] w fun e w' => ∃ v0_ : Value, e = .returned v0_ ∧ Kd.R (Kd.int .i64) 3 w' w.heap.size (fun _ => True) v0_ r ∧ Below w.heap.size w w' := by
  unfold lamplighterref06_Plain.f at h
  split at h
  · rename_i hs
    injection h with h
    subst h
    refine (rplain_any A0 l0.length c0 l0 w (RI_of_C hr0) hs).mono ?_
    rintro e w' ⟨v, rfl, ho, hb⟩
    exact ⟨v, rfl, R_of_ints ho, hb⟩
  · cases h
end
end Go.Proofs.YtliaemoomhfcdaaGreat.RK
