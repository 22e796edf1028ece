/- The contracts of package amap, in the form of the printed texts AT. -/
import Derived.Test.YtliaemoomhfcdaaGreatMX
import Derived.Test.YtliaemoomhfcdaaGreatATx0
import Derived.Test.YtliaemoomhfcdaaGreatGivenPK
import Derived.Test.YtliaemoomhfcdaaGreatWithW
import Derived.Test.YtliaemoomhfcdaaGreatGivenAZ
import Derived.Test.YtliaemoomhfcdaaGreatGivenRK
import Derived.Test.YtliaemoomhfcdaaGreatGivenRF
namespace Go.Proofs.YtliaemoomhfcdaaGreat.AT
open Go.RowKit Go.Proofs.YtliaemoomhfcdaaGreatW.PrintWords Go.Proofs.YtliaemoomhfcdaaGreatW.PrintLast Go.Proofs.YtliaemoomhfcdaaGreatW.PrintMore
set_option linter.unusedVariables false
set_option linter.unusedSimpArgs false
section
def toP (x : S45) : KV := (x.f0, x.f1)
def ofP (p : KV) : S45 := ⟨p.1, p.2⟩
theorem to_of (p : KV) : toP (ofP p) = p := rfl
theorem map_to_of (l : List KV) : (l.map ofP).map toP = l := by rw [List.map_map, show (toP ∘ ofP) = id from rfl, List.map_id]
theorem map_of_to (l : List S45) : (l.map toP).map ofP = l := by rw [List.map_map, show (ofP ∘ toP) = id from rfl, List.map_id]
theorem C_to {A : Option Addr} {w : World} {l : List S45} (h : Kd.C k45 w A l.length l) : Kd.C kp w A (l.map toP).length (l.map toP) := by
  rw [List.length_map]
  exact C_pairs toP h
theorem R_of {v : Value} {w : World} {b : Nat} {l : List KV} (h : w.ownsRow b 45 2 v l.length (flatP l)) : Kd.R k45 45 w b (fun _ => True) v (l.map ofP) := by
  refine R_pairs toP ?_
  rw [map_to_of, List.length_map]
  exact h
def amap_Own.f (l0 : List Int) (a1 : Int) : Option (List S45 × Int) := if l0.length ≤ 1000000000 then some ((ownAns l0 a1).1.map ofP, (ownAns l0 a1).2) else none
theorem amap_Own.calls (A0 : Option Addr) (c0 : Nat) (l0 : List Int) (a1 : Int) (r1 : List S45) (r2 : Int) (w : World) (hr0 : Kd.C (Kd.int .i64) w A0 l0.length l0) (hc0 : l0.length ≤ c0) (h : amap_Own.f l0 a1 = some (r1, r2)) :
    Calls Tryz.prog 6 #[.slice A0 l0.length c0, .int .i64 a1] w fun e w' => ∃ v0_ : Value, e = .returned (.tuple #[v0_, .int .i64 r2]) ∧ Kd.R k45 45 w' w.heap.size (fun _ => True) v0_ r1 ∧ Below w.heap.size w w' := by
  unfold amap_Own.f at h
  split at h
  · rename_i hs
    injection h with h
    have h1 : (ownAns l0 a1).1.map ofP = r1 := congrArg Prod.fst h
    have h2 : (ownAns l0 a1).2 = r2 := congrArg Prod.snd h
    subst h1 h2
    exact (Own_any A0 c0 l0 a1 w hr0 hc0 hs).mono fun _ _ hp => pairPost_R toP ofP to_of hp
  · cases h
def amap_Pairs.f (l0 : List Int) : Option (List S45 × Int) := if l0.length ≤ 1000000000 then some ((pairsAns l0).1.map ofP, (pairsAns l0).2) else none
theorem amap_Pairs.calls (A0 : Option Addr) (c0 : Nat) (l0 : List Int) (r1 : List S45) (r2 : Int) (w : World) (hr0 : Kd.C (Kd.int .i64) w A0 l0.length l0) (hc0 : l0.length ≤ c0) (h : amap_Pairs.f l0 = some (r1, r2)) :
    Calls Tryz.prog 8 #[.slice A0 l0.length c0] w fun e w' => ∃ v0_ : Value, e = .returned (.tuple #[v0_, .int .i64 r2]) ∧ Kd.R k45 45 w' w.heap.size (fun _ => True) v0_ r1 ∧ Below w.heap.size w w' := by
  unfold amap_Pairs.f at h
  split at h
  · rename_i hs
    injection h with h
    have h1 : (pairsAns l0).1.map ofP = r1 := congrArg Prod.fst h
    have h2 : (pairsAns l0).2 = r2 := congrArg Prod.snd h
    subst h1 h2
    exact (Pairs_any A0 c0 l0 w hr0 hc0 hs).mono fun _ _ hp => pairPost_R toP ofP to_of hp
  · cases h
def amap_Get.f (l0 : List S45) (a1 : ByteArray) : Option (ByteArray × Bool) := if l0.length ≤ 1000000000 then some (getOf (l0.map toP) a1) else none
theorem amap_Get.calls (A0 : Option Addr) (c0 : Nat) (l0 : List S45) (a1 : ByteArray) (r1 : ByteArray) (r2 : Bool) (w : World) (hr0 : Kd.C k45 w A0 l0.length l0) (hc0 : l0.length ≤ c0) (h : amap_Get.f l0 a1 = some (r1, r2)) :
    Calls Tryz.prog 10 #[.slice A0 l0.length c0, .string a1] w fun e w' => e = .returned (.tuple #[.string r1, .bool r2]) ∧ Below w.heap.size w w' := by
  unfold amap_Get.f at h
  split at h
  · rename_i hs
    injection h with h
    have h1 : (getOf (l0.map toP) a1).1 = r1 := by rw [h]
    have h2 : (getOf (l0.map toP) a1).2 = r2 := by rw [h]
    subst h1 h2
    have := get_any A0 c0 (l0.map toP) a1 w (C_to hr0) (by rw [List.length_map]; exact hs)
    rw [List.length_map] at this
    exact this
  · cases h
def amap_Without.f (l0 : List S45) (a1 : ByteArray) : Option (List S45) := if l0.length ≤ 100000000 then some ((withoutOf (l0.map toP) a1).map ofP) else none
theorem amap_Without.calls (A0 : Option Addr) (c0 : Nat) (l0 : List S45) (a1 : ByteArray) (r : List S45) (w : World) (hr0 : Kd.C k45 w A0 l0.length l0) (hc0 : l0.length ≤ c0) (h : amap_Without.f l0 a1 = some r) :
    Calls Tryz.prog 15 #[.slice A0 l0.length c0, .string a1] w fun e w' => ∃ v0_ : Value, e = .returned (v0_) ∧ Kd.R k45 45 w' w.heap.size (fun _ => True) v0_ r ∧ Below w.heap.size w w' := by
  unfold amap_Without.f at h
  split at h
  · rename_i hs
    injection h with h
    subst h
    have := without_any A0 c0 (l0.map toP) a1 w (C_to hr0) (by rw [List.length_map]; omega)
    rw [List.length_map] at this
    exact this.mono fun _ _ ⟨v, h1, h2, h3⟩ => ⟨v, h1, R_of h2, h3⟩
  · cases h
def amap_With.f (l0 : List S45) (a1 a2 : ByteArray) : Option (List S45) := if l0.length ≤ 100000000 then some ((withOf (l0.map toP) a1 a2).map ofP) else none
theorem amap_With.calls (A0 : Option Addr) (c0 : Nat) (l0 : List S45) (a1 a2 : ByteArray) (r : List S45) (w : World) (hr0 : Kd.C k45 w A0 l0.length l0) (hc0 : l0.length ≤ c0) (h : amap_With.f l0 a1 a2 = some r) :
    Calls Tryz.prog 13 #[.slice A0 l0.length c0, .string a1, .string a2] w fun e w' => ∃ v0_ : Value, e = .returned (v0_) ∧ Kd.R k45 45 w' w.heap.size (fun _ => True) v0_ r ∧ Below w.heap.size w w' := by
  unfold amap_With.f at h
  split at h
  · rename_i hs
    injection h with h
    subst h
    have := withP_any A0 c0 (l0.map toP) a1 a2 w (C_to hr0) (by rw [List.length_map]; omega)
    rw [List.length_map] at this
    exact this.mono fun _ _ ⟨v, h1, h2, h3⟩ => ⟨v, h1, R_of h2, h3⟩
  · cases h
end
end Go.Proofs.YtliaemoomhfcdaaGreat.AT
