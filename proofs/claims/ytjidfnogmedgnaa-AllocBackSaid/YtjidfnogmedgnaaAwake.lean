/- The walk of the calls at the head of all statements. -/
import Derived.Test.YtjidfnogmedgnaaRefGive
namespace Go.Proofs.Ytjidfnogmedgnaa
open Go.RowKit
set_option maxHeartbeats 1000000
set_option maxRecDepth 100000

theorem reads_lit (w : World) (l : List Int) (cs : Array Value) (h : cs = (ints l).toArray) (hl : l.length ≤ 1000) : RI (w.alloc (.cells cs 3)) (some ⟨w.heap.size, 0, none⟩) l.length l := by
  subst h
  exact Reads.of_own (World.ownsRow_lit (base := w.heap.size) (e := 3) (size := 1) w (ints l).toArray l.length (Nat.le_refl _) (by simp only [maxLen]; omega) (by simp))

theorem awake_any (w : World) : Calls Try.prog 8 #[] w fun e w' => e = .returned (.bool true) ∧ Below w.heap.size w w' := by
  go_enter Try.func8, Try.ntmps8
  go_wp2_with fail
  refine (free_any 6 _ 2 2 [1, 3] _ (reads_lit w [1, 3] _ rfl (by simp)) (by omega)).mono ?_
  rw [show freeOf 6 [1, 3] = ([2, 4, 5], 0) from by decide]
  rintro e w1 ⟨A1, n1, c1, rfl, hc1, hr1, hB1⟩
  obtain rfl : n1 = 3 := hr1.len.symm
  have hB1' : Below w.heap.size w w1 := ((Below.refl _ _).alloc (Nat.le_refl _) _).trans (hB1.mono (by simp))
  clear hB1
  go_wp2_with fail
  refine (take_any A1 3 c1 [2, 4, 5] 2 _ hr1 (by omega) hc1).mono ?_
  rw [show takeOf [2, 4, 5] 2 = ([2, 4], [5], 0) from by decide]
  rintro e w2 ⟨A2, n2, c2, A3, n3, c3, rfl, hc2, hc3, hr2, hr3, hB2⟩
  obtain rfl : n2 = 2 := hr2.len.symm
  obtain rfl : n3 = 1 := hr3.len.symm
  replace hr1 := hr1.below hB2
  replace hB1' := hB1'.next hB2
  clear hB2
  go_wp2_with fail
  refine (give_any A3 1 c3 [5] 3 _ hr3 (by omega) hc3).mono ?_
  rw [show giveOf [5] 3 = ([3, 5], 0) from by decide]
  rintro e w3 ⟨A4, n4, c4, rfl, hc4, hr4, hB3⟩
  obtain rfl : n4 = 2 := hr4.len.symm
  replace hr1 := hr1.below hB3
  replace hr2 := hr2.below hB3
  replace hB1' := hB1'.next hB3
  clear hB3 hr3
  go_wp2_with fail
  refine (take_any A1 3 c1 [2, 4, 5] 4 _ hr1 (by omega) hc1).mono ?_
  rw [show takeOf [2, 4, 5] 4 = ([], [2, 4, 5], 100) from by decide]
  rintro e w4 ⟨A5, n5, c5, A6, n6, c6, rfl, hc5, hc6, hr5, hr6, hB2⟩
  replace hr1 := hr1.below hB2
  replace hr2 := hr2.below hB2
  replace hr4 := hr4.below hB2
  replace hB1' := hB1'.next hB2
  clear hB2 hr5 hr6
  go_wp2_with fail
  refine (free_any 0 none 0 0 [] _ (RI.nil _) (by omega)).mono ?_
  rw [show freeOf 0 [] = ([], 1) from by decide]
  rintro e w5 ⟨A7, n7, c7, rfl, hc7, hr7, hB2⟩
  replace hr1 := hr1.below hB2
  replace hr2 := hr2.below hB2
  replace hr4 := hr4.below hB2
  replace hB1' := hB1'.next hB2
  clear hB2 hr7
  go_wp2_with fail
  refine (numbers_any A1 3 c1 [2, 4, 5] _ 3 3 [2, 4, 5] _ (hr1.below ((Below.refl _ _).alloc (Nat.le_refl _) _)) (reads_lit w5 [2, 4, 5] _ rfl (by simp)) (by omega) (by omega)).mono ?_
  rw [show decide (([2, 4, 5] : List Int) = [2, 4, 5]) = true from by decide]
  rintro e w6 ⟨rfl, hB2⟩
  replace hr1 := (hr1.below ((Below.refl _ _).alloc (Nat.le_refl _) _)).below hB2
  replace hr2 := (hr2.below ((Below.refl _ _).alloc (Nat.le_refl _) _)).below hB2
  replace hr4 := (hr4.below ((Below.refl _ _).alloc (Nat.le_refl _) _)).below hB2
  replace hB1' := (hB1'.alloc hB1'.size _).next hB2
  clear hB2
  go_wp2_with fail
  refine (numbers_any A2 2 c2 [2, 4] _ 2 2 [2, 4] _ (hr2.below ((Below.refl _ _).alloc (Nat.le_refl _) _)) (reads_lit w6 [2, 4] _ rfl (by simp)) (by omega) (by omega)).mono ?_
  rw [show decide (([2, 4] : List Int) = [2, 4]) = true from by decide]
  rintro e w7 ⟨rfl, hB2⟩
  replace hr1 := (hr1.below ((Below.refl _ _).alloc (Nat.le_refl _) _)).below hB2
  replace hr4 := (hr4.below ((Below.refl _ _).alloc (Nat.le_refl _) _)).below hB2
  replace hB1' := (hB1'.alloc hB1'.size _).next hB2
  clear hB2 hr2
  go_wp2_with fail
  refine (numbers_any A4 2 c4 [3, 5] _ 2 2 [3, 5] _ (hr4.below ((Below.refl _ _).alloc (Nat.le_refl _) _)) (reads_lit w7 [3, 5] _ rfl (by simp)) (by omega) (by omega)).mono ?_
  rw [show decide (([3, 5] : List Int) = [3, 5]) = true from by decide]
  rintro e w8 ⟨rfl, hB2⟩
  replace hr1 := (hr1.below ((Below.refl _ _).alloc (Nat.le_refl _) _)).below hB2
  replace hB1' := (hB1'.alloc hB1'.size _).next hB2
  clear hB2 hr4
  go_wp2_with fail
  refine (check_any A1 3 c1 [2, 4, 5] _ hr1 (by omega)).mono ?_
  rw [show chk [2, 4, 5] = true from by decide]
  rintro e w9 ⟨rfl, rfl⟩
  go_wp2_with fail
  refine (check_any _ 1 1 [0] _ (reads_lit w8 [0] _ rfl (by simp)) (by omega)).mono ?_
  rw [show chk [0] = false from by decide]
  rintro e w9 ⟨rfl, rfl⟩
  go_wp2
  go_ret
  exact ⟨rfl, hB1'.alloc hB1'.size _⟩
end Go.Proofs.Ytjidfnogmedgnaa
