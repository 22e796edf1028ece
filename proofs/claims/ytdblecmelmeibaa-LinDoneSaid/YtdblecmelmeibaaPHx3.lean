/- Written by this session's own program (hprint.py) with the help of the kit's print. Lean checks it. -/
import Derived.Test.YtdblecmelmeibaaPHx0
namespace Go.Proofs.Ytdblecmelmeibaa.PH
open Go.RowKit Go.Proofs.YtdblecmelmeibaaW.PrintWords Go.Proofs.YtdblecmelmeibaaW.PrintLast Go.Proofs.YtdblecmelmeibaaW.PrintMore
attribute [local go_sem] max2_int min2_int max_two min_two max_three min_three max_four min_four   -- for this text's walks alone
set_option linter.unusedVariables false
set_option linter.unusedSimpArgs false
noncomputable section

/-! ### lamplighterlaw22_done: function 16 -/
mutual
def lamplighterlaw22_done.l0 : Nat → List (S33) → List (S37) → ByteArray → Bool → Int → Option ((List (S37)) × ByteArray × Bool)
  | 0, _, _, _, _, _ => none
  | k + 1, x0, x5, x6, x7, x8 => if x8 < (x0.length : Int) then (if 0 ≤ x8 then (if (wrap64 (1 + (wrap64 (Int.tmod ((rd_T33 x0 x8).f0) 3)))) = 2 then (lamplighterlaw22_done.j1 k x0 x5 x6 x7 x8 x7 (wrap64 ((wrap64 (10 * x8)) - (wrap64 (Int.tmod ((rd_T33 x0 x8).f2) 40)))) (wrap64 ((wrap64 (10 * x8)) + (wrap64 (Int.tmod ((rd_T33 x0 x8).f2) 30)))) (wrap64 (1 + (wrap64 (Int.tmod ((rd_T33 x0 x8).f0) 3)))) (⟨#[]⟩ : ByteArray) x7 ((rd_T33 x0 x8).f3)) else (lamplighterlaw22_done.j1 k x0 x5 x6 x7 x8 false (wrap64 ((wrap64 (10 * x8)) - (wrap64 (Int.tmod ((rd_T33 x0 x8).f2) 40)))) (wrap64 ((wrap64 (10 * x8)) + (wrap64 (Int.tmod ((rd_T33 x0 x8).f2) 30)))) (wrap64 (1 + (wrap64 (Int.tmod ((rd_T33 x0 x8).f0) 3)))) (⟨#[]⟩ : ByteArray) x7 ((rd_T33 x0 x8).f3))) else (none)) else (some (x5, x6, x7))
def lamplighterlaw22_done.j1 : Nat → List (S33) → List (S37) → ByteArray → Bool → Int → Bool → Int → Int → Int → ByteArray → Bool → Bool → Option ((List (S37)) × ByteArray × Bool)
  | 0, _, _, _, _, _, _, _, _, _, _, _, _ => none
  | k + 1, x0, x5, x6, x7, x8, x56, x142000, x142001, x142002, x142003, x142004, x142005 => if x56 = true then (lamplighterlaw22_done.j2 k x0 x5 x6 x7 x8 x142000 x142001 x142002 x6 x142004 x142005) else (lamplighterlaw22_done.j2 k x0 x5 x6 x7 x8 x142000 x142001 x142002 x142003 x142004 x142005)
def lamplighterlaw22_done.j2 : Nat → List (S33) → List (S37) → ByteArray → Bool → Int → Int → Int → Int → ByteArray → Bool → Bool → Option ((List (S37)) × ByteArray × Bool)
  | 0, _, _, _, _, _, _, _, _, _, _, _ => none
  | k + 1, x0, x5, x6, x7, x8, x142000, x142001, x142002, x142003, x142004, x142005 => if x142002 = 1 then (if 0 ≤ x8 then (if x8 < (x0.length : Int) then (if x142002 = 3 then (if x5.length < 2932031007402 then (lamplighterlaw22_done.l0 k x0 (x5 ++ [(⟨x142000, x142001, x142002, (rd_T33 x0 x8).f1, x142004, x142005⟩ : S37)]) (⟨#[]⟩ : ByteArray) false (wrap64 (x8 + 1))) else (none)) else (if x5.length < 2932031007402 then (lamplighterlaw22_done.l0 k x0 (x5 ++ [(⟨x142000, x142001, x142002, (rd_T33 x0 x8).f1, x142004, x142005⟩ : S37)]) ((rd_T33 x0 x8).f1) true (wrap64 (x8 + 1))) else (none))) else (none)) else (none)) else (if x142002 = 3 then (if x5.length < 2932031007402 then (lamplighterlaw22_done.l0 k x0 (x5 ++ [(⟨x142000, x142001, x142002, x142003, x142004, x142005⟩ : S37)]) (⟨#[]⟩ : ByteArray) false (wrap64 (x8 + 1))) else (none)) else (if x5.length < 2932031007402 then (lamplighterlaw22_done.l0 k x0 (x5 ++ [(⟨x142000, x142001, x142002, x142003, x142004, x142005⟩ : S37)]) x6 x7 (wrap64 (x8 + 1))) else (none)))
end
def lamplighterlaw22_done.f (k : Nat) (l0 : List (S33)) : Option ((List (S37)) × ByteArray × Bool) := lamplighterlaw22_done.l0 k l0 ([] : List (S37)) (⟨#[]⟩ : ByteArray) false 0
theorem lamplighterlaw22_done.mono_l : ∀ k, (∀ y0 y1 y2 y3 y4, LeO (lamplighterlaw22_done.l0 k y0 y1 y2 y3 y4) (lamplighterlaw22_done.l0 (k + 1) y0 y1 y2 y3 y4)) ∧ (∀ y0 y1 y2 y3 y4 y5 y6 y7 y8 y9 y10 y11, LeO (lamplighterlaw22_done.j1 k y0 y1 y2 y3 y4 y5 y6 y7 y8 y9 y10 y11) (lamplighterlaw22_done.j1 (k + 1) y0 y1 y2 y3 y4 y5 y6 y7 y8 y9 y10 y11)) ∧ (∀ y0 y1 y2 y3 y4 y5 y6 y7 y8 y9 y10, LeO (lamplighterlaw22_done.j2 k y0 y1 y2 y3 y4 y5 y6 y7 y8 y9 y10) (lamplighterlaw22_done.j2 (k + 1) y0 y1 y2 y3 y4 y5 y6 y7 y8 y9 y10))
  | 0 => ⟨fun _ _ _ _ _ r h => by simp [lamplighterlaw22_done.l0] at h, fun _ _ _ _ _ _ _ _ _ _ _ _ r h => by simp [lamplighterlaw22_done.j1] at h, fun _ _ _ _ _ _ _ _ _ _ _ r h => by simp [lamplighterlaw22_done.j2] at h⟩
  | k + 1 => by
    obtain ⟨ih0, ih1, ih2⟩ := lamplighterlaw22_done.mono_l k
    refine ⟨?_, ?_, ?_⟩
    · intro y0 y1 y2 y3 y4
      unfold lamplighterlaw22_done.l0
      repeat' first
      | (with_reducible exact ih0 _ _ _ _ _)
      | (with_reducible exact ih1 _ _ _ _ _ _ _ _ _ _ _ _)
      | (with_reducible exact ih2 _ _ _ _ _ _ _ _ _ _ _)
      | (with_reducible exact LeO.refl _)
      | (with_reducible exact LeO.none _)
      | (with_reducible refine LeO.ite ?_ ?_)
      | (with_reducible refine LeO.bind ?_ (fun _ => ?_))
      | exact ih0 _ _ _ _ _
      | exact ih1 _ _ _ _ _ _ _ _ _ _ _ _
      | exact ih2 _ _ _ _ _ _ _ _ _ _ _
      | exact LeO.none _
      | refine LeO.ite ?_ ?_
      | refine LeO.bind ?_ (fun _ => ?_)
    · intro y0 y1 y2 y3 y4 y5 y6 y7 y8 y9 y10 y11
      unfold lamplighterlaw22_done.j1
      repeat' first
      | (with_reducible exact ih0 _ _ _ _ _)
      | (with_reducible exact ih1 _ _ _ _ _ _ _ _ _ _ _ _)
      | (with_reducible exact ih2 _ _ _ _ _ _ _ _ _ _ _)
      | (with_reducible exact LeO.refl _)
      | (with_reducible exact LeO.none _)
      | (with_reducible refine LeO.ite ?_ ?_)
      | (with_reducible refine LeO.bind ?_ (fun _ => ?_))
      | exact ih0 _ _ _ _ _
      | exact ih1 _ _ _ _ _ _ _ _ _ _ _ _
      | exact ih2 _ _ _ _ _ _ _ _ _ _ _
      | exact LeO.none _
      | refine LeO.ite ?_ ?_
      | refine LeO.bind ?_ (fun _ => ?_)
    · intro y0 y1 y2 y3 y4 y5 y6 y7 y8 y9 y10
      unfold lamplighterlaw22_done.j2
      repeat' first
      | (with_reducible exact ih0 _ _ _ _ _)
      | (with_reducible exact ih1 _ _ _ _ _ _ _ _ _ _ _ _)
      | (with_reducible exact ih2 _ _ _ _ _ _ _ _ _ _ _)
      | (with_reducible exact LeO.refl _)
      | (with_reducible exact LeO.none _)
      | (with_reducible refine LeO.ite ?_ ?_)
      | (with_reducible refine LeO.bind ?_ (fun _ => ?_))
      | exact ih0 _ _ _ _ _
      | exact ih1 _ _ _ _ _ _ _ _ _ _ _ _
      | exact ih2 _ _ _ _ _ _ _ _ _ _ _
      | exact LeO.none _
      | refine LeO.ite ?_ ?_
      | refine LeO.bind ?_ (fun _ => ?_)
theorem lamplighterlaw22_done.mono : ∀ a0 k, LeO (lamplighterlaw22_done.f k a0) (lamplighterlaw22_done.f (k + 1) a0) := by
  intro a0 k
  obtain ⟨ih0, ih1, ih2⟩ := lamplighterlaw22_done.mono_l k
  unfold lamplighterlaw22_done.f
  repeat' first
      | (with_reducible exact ih0 _ _ _ _ _)
      | (with_reducible exact ih1 _ _ _ _ _ _ _ _ _ _ _ _)
      | (with_reducible exact ih2 _ _ _ _ _ _ _ _ _ _ _)
      | (with_reducible exact LeO.refl _)
      | (with_reducible exact LeO.none _)
      | (with_reducible refine LeO.ite ?_ ?_)
      | (with_reducible refine LeO.bind ?_ (fun _ => ?_))
      | exact ih0 _ _ _ _ _
      | exact ih1 _ _ _ _ _ _ _ _ _ _ _ _
      | exact ih2 _ _ _ _ _ _ _ _ _ _ _
      | exact LeO.none _
      | refine LeO.ite ?_ ?_
      | refine LeO.bind ?_ (fun _ => ?_)
def lamplighterlaw22_done.T7 : Bool × List (List Nat × List Nat) := (true, [([], []), ([0], [0]), ([], []), ([], []), ([2, 3], [2, 3]), ([4], [4]), ([5], [5]), ([6], [6]), ([7], [7]), ([1, 8], [1, 8]), ([], []), ([10], [10]), ([], []), ([], []), ([12, 13], [12, 13]), ([14], [14]), ([15], [15]), ([16], [16]), ([17], [17]), ([11, 18], [11, 18]), ([], []), ([], []), ([20, 21], [20, 21]), ([22], [22]), ([23], [23]), ([24], [24]), ([25], [25]), ([26], [26]), ([], []), ([], []), ([28, 29], [28, 29]), ([30], [30]), ([31], [31]), ([], []), ([9, 19, 27, 32, 33], [9, 19, 27, 32, 33]), ([], []), ([35, 34, 0, 1, 2, 3, 4, 5, 6, 7, 8, 9, 10, 11, 12, 13, 14, 15, 16, 17, 18, 19, 20, 21, 22, 23, 24, 25, 26, 27, 28, 29, 30, 31, 32, 33, 34, 35], [34, 35])])
def lamplighterlaw22_done.B7 : List Nat := [0, 1, 0, 0, 12, 28, 60, 124, 252, 511, 0, 1024, 0, 0, 12288, 28672, 61440, 126976, 258048, 523264, 0, 0, 3145728, 7340032, 15728640, 32505856, 66060288, 133169152, 0, 0, 805306368, 1879048192, 4026531840, 0, 17179869183, 0, 68719476735]
theorem lamplighterlaw22_done.tab7 : rtab .any (opsOf Try.f16 7) = lamplighterlaw22_done.T7 := by kernel_rfl
theorem lamplighterlaw22_done.bits7 : waitsOk lamplighterlaw22_done.T7.2 lamplighterlaw22_done.B7 = true := by kernel_rfl
set_option maxHeartbeats 8000000 in
set_option maxRecDepth 100000 in
theorem lamplighterlaw22_done.calls (k : Nat) (A0 : Option Addr) (c0 : Nat) (l0 : List (S33)) (r1 : List (S37)) (r2 : ByteArray) (r3 : Bool) (w : World) (hr0 : Kd.C k33 w A0 l0.length l0) (hc0 : l0.length ≤ c0) (h : lamplighterlaw22_done.f k l0 = some (r1, r2, r3)) :
    Calls Try.prog 16 #[.slice A0 l0.length c0] w fun e w' => ∃ v0_ : Value, e = .returned (.tuple #[v0_, .string r2, .bool r3]) ∧ Kd.R k37 37 w' w.heap.size (fun _ => True) v0_ r1 ∧ Below w.heap.size w w' := by
  have hu37 := Try.underlying37
  have HR0 := Aside0.mk hr0
  have HC0 := Aside0.mk hc0
  clear hr0 hc0
  have HB := Aside0.mk (Below.refl w.heap.size w)
  have H : (lamplighterlaw22_done.l0 k l0 ([] : List (S37)) (⟨#[]⟩ : ByteArray) false 0) = some (r1, r2, r3) := h
  clear h
  have H' := Aside0.mk H
  clear H
  go_enter Try.func16, Try.ntmps16
  go_wp2
  go_loopg [5, 6, 7, 8] k (fun kq v5 v6 v7 v8 w' => ∃ (x5_1 : List (S37)) (x6_1 : ByteArray) (x7_1 : Bool) (x8_1 : Int), v6 = .string x6_1 ∧ v7 = .bool x7_1 ∧ v8 = .int .i64 x8_1 ∧ Aside0 (lamplighterlaw22_done.l0 kq l0 x5_1 x6_1 x7_1 x8_1 = some (r1, r2, r3)) ∧ Aside0 (kq ≤ k) ∧ Aside0 (Kd.R k37 37 w' w.heap.size (fun _ => True) v5 x5_1) ∧ Aside0 (Below w.heap.size w w'))
  case atStart => exact ⟨(([] : List (S37))), ((⟨#[]⟩ : ByteArray)), (false), (0), (by first | rfl | (simp; done) | (simp [*]; done)), (by first | rfl | (simp; done) | (simp [*]; done)), (by first | rfl | (simp; done) | (simp [*]; done)), H', ⟨Nat.le_refl _⟩, ⟨by first | exact Kd.R_nil _ _ _ _ _ | exact Kd.N_nil _ _ _ _ _ | exact Kd.V_nil _ _ _ _ _ | exact Kd.Q_nil _ _ _ _ _ | exact Kd.S_nil _ _ _ _ _⟩, ⟨by repeat (first | (with_reducible first | exact HB.out | apply below_alloc | apply pw_below_drewN | apply below_drew1) | exact HB.out)⟩⟩
  case round =>
    clear H'
    try clear c1
    obtain ⟨x5_1, x6_1, x7_1, x8_1, rfl, rfl, rfl, HA, HK1, HO_5, HB⟩ := hrel
    cases gk with
    | zero => exact absurd HA.out (by simp [lamplighterlaw22_done.l0])
    | succ k1 =>
      have H := HA.out
      clear HA
      simp only [lamplighterlaw22_done.l0] at H
      by_cases c2 : x8_1 < (l0.length : Int)
      · rw [if_pos c2] at H
        have c2b0 : decide (x8_1 < (l0.length : Int)) = true := decide_eq_true c2
        clear c2
        by_cases c3 : 0 ≤ x8_1
        · rw [if_pos c3] at H
          have c3b0 : decide (0 ≤ x8_1) = true := decide_eq_true c3
          clear c3
          have HC4 := Aside0.mk H
          clear H
          try go_wp2
          have n0_ := Aside0.mk (Kd.R_drew HO_5.out)
          have n1_ := Aside0.mk (below_drew1 HB.out)
          clear HO_5
          clear HB
          have HO_5 := n0_
          have HB := n1_
          clear n0_ n1_
          have p137 : 0 ≤ (x8_1 : Int) := of_decide_eq_true (by first | (with_reducible assumption) | assumption)
          have q137 : x8_1 < (l0.length : Int) := of_decide_eq_true (by first | (with_reducible assumption) | assumption)
          obtain ⟨ad137, e137, hx137_0, hx137_1, hx137_2, hx137_3⟩ := at_T33 HR0.out x8_1 p137 q137
          have hw137_3 := hx137_3
          have hw137_2 := hx137_2
          have hw137_1 := hx137_1
          have hw137_0 := hx137_0
          cases e137
          replace hx137_0 := (HB.out.cell (World.block_lt_of_cell? w _ hx137_0)).trans hx137_0
          replace hx137_1 := (HB.out.cell (World.block_lt_of_cell? w _ hx137_1)).trans hx137_1
          replace hx137_2 := (HB.out.cell (World.block_lt_of_cell? w _ hx137_2)).trans hx137_2
          replace hx137_3 := (HB.out.cell (World.block_lt_of_cell? w _ hx137_3)).trans hx137_3
          replace p137 := eq_true p137
          replace q137 := eq_true q137
          have p138 : 0 ≤ (x8_1 : Int) := of_decide_eq_true (by first | (with_reducible assumption) | assumption)
          have q138 : x8_1 < (l0.length : Int) := of_decide_eq_true (by first | (with_reducible assumption) | assumption)
          obtain ⟨ad138, e138, hx138_0, hx138_1, hx138_2, hx138_3⟩ := at_T33 HR0.out x8_1 p138 q138
          have hw138_3 := hx138_3
          have hw138_2 := hx138_2
          have hw138_1 := hx138_1
          have hw138_0 := hx138_0
          obtain rfl : ad137 = ad138 := (by injection e138)
          replace hx138_0 := (HB.out.cell (World.block_lt_of_cell? w _ hx138_0)).trans hx138_0
          replace hx138_1 := (HB.out.cell (World.block_lt_of_cell? w _ hx138_1)).trans hx138_1
          replace hx138_2 := (HB.out.cell (World.block_lt_of_cell? w _ hx138_2)).trans hx138_2
          replace hx138_3 := (HB.out.cell (World.block_lt_of_cell? w _ hx138_3)).trans hx138_3
          replace p138 := eq_true p138
          replace q138 := eq_true q138
          have p139 : 0 ≤ (x8_1 : Int) := of_decide_eq_true (by first | (with_reducible assumption) | assumption)
          have q139 : x8_1 < (l0.length : Int) := of_decide_eq_true (by first | (with_reducible assumption) | assumption)
          obtain ⟨ad139, e139, hx139_0, hx139_1, hx139_2, hx139_3⟩ := at_T33 HR0.out x8_1 p139 q139
          have hw139_3 := hx139_3
          have hw139_2 := hx139_2
          have hw139_1 := hx139_1
          have hw139_0 := hx139_0
          obtain rfl : ad137 = ad139 := (by injection e139)
          replace hx139_0 := (HB.out.cell (World.block_lt_of_cell? w _ hx139_0)).trans hx139_0
          replace hx139_1 := (HB.out.cell (World.block_lt_of_cell? w _ hx139_1)).trans hx139_1
          replace hx139_2 := (HB.out.cell (World.block_lt_of_cell? w _ hx139_2)).trans hx139_2
          replace hx139_3 := (HB.out.cell (World.block_lt_of_cell? w _ hx139_3)).trans hx139_3
          replace p139 := eq_true p139
          replace q139 := eq_true q139
          have p140 : 0 ≤ (x8_1 : Int) := of_decide_eq_true (by first | (with_reducible assumption) | assumption)
          have q140 : x8_1 < (l0.length : Int) := of_decide_eq_true (by first | (with_reducible assumption) | assumption)
          obtain ⟨ad140, e140, hx140_0, hx140_1, hx140_2, hx140_3⟩ := at_T33 HR0.out x8_1 p140 q140
          have hw140_3 := hx140_3
          have hw140_2 := hx140_2
          have hw140_1 := hx140_1
          have hw140_0 := hx140_0
          obtain rfl : ad137 = ad140 := (by injection e140)
          replace hx140_0 := (HB.out.cell (World.block_lt_of_cell? w _ hx140_0)).trans hx140_0
          replace hx140_1 := (HB.out.cell (World.block_lt_of_cell? w _ hx140_1)).trans hx140_1
          replace hx140_2 := (HB.out.cell (World.block_lt_of_cell? w _ hx140_2)).trans hx140_2
          replace hx140_3 := (HB.out.cell (World.block_lt_of_cell? w _ hx140_3)).trans hx140_3
          replace p140 := eq_true p140
          replace q140 := eq_true q140
          refine start_ (n := 37) (S := fun w' => w'.cell? (ad137.add ((x8_1).toNat * 4)) = some (.int .u8 ((rd_T33 l0 x8_1).f0)) ∧ w'.cell? ⟨(ad137.add ((x8_1).toNat * 4)).block, (ad137.add ((x8_1).toNat * 4)).off + 1, none⟩ = some (.string ((rd_T33 l0 x8_1).f1)) ∧ w'.cell? ⟨(ad137.add ((x8_1).toNat * 4)).block, (ad137.add ((x8_1).toNat * 4)).off + 2, none⟩ = some (.int .u8 ((rd_T33 l0 x8_1).f2)) ∧ w'.cell? ⟨(ad137.add ((x8_1).toNat * 4)).block, (ad137.add ((x8_1).toNat * 4)).off + 3, none⟩ = some (.bool ((rd_T33 l0 x8_1).f3)) ∧ w'.cell? (ad137.add ((x8_1).toNat * 4)) = some (.int .u8 ((rd_T33 l0 x8_1).f0)) ∧ w'.cell? ⟨(ad137.add ((x8_1).toNat * 4)).block, (ad137.add ((x8_1).toNat * 4)).off + 1, none⟩ = some (.string ((rd_T33 l0 x8_1).f1)) ∧ w'.cell? ⟨(ad137.add ((x8_1).toNat * 4)).block, (ad137.add ((x8_1).toNat * 4)).off + 2, none⟩ = some (.int .u8 ((rd_T33 l0 x8_1).f2)) ∧ w'.cell? ⟨(ad137.add ((x8_1).toNat * 4)).block, (ad137.add ((x8_1).toNat * 4)).off + 3, none⟩ = some (.bool ((rd_T33 l0 x8_1).f3)) ∧ w'.cell? (ad137.add ((x8_1).toNat * 4)) = some (.int .u8 ((rd_T33 l0 x8_1).f0)) ∧ w'.cell? ⟨(ad137.add ((x8_1).toNat * 4)).block, (ad137.add ((x8_1).toNat * 4)).off + 1, none⟩ = some (.string ((rd_T33 l0 x8_1).f1)) ∧ w'.cell? ⟨(ad137.add ((x8_1).toNat * 4)).block, (ad137.add ((x8_1).toNat * 4)).off + 2, none⟩ = some (.int .u8 ((rd_T33 l0 x8_1).f2)) ∧ w'.cell? ⟨(ad137.add ((x8_1).toNat * 4)).block, (ad137.add ((x8_1).toNat * 4)).off + 3, none⟩ = some (.bool ((rd_T33 l0 x8_1).f3)) ∧ w'.cell? (ad137.add ((x8_1).toNat * 4)) = some (.int .u8 ((rd_T33 l0 x8_1).f0)) ∧ w'.cell? ⟨(ad137.add ((x8_1).toNat * 4)).block, (ad137.add ((x8_1).toNat * 4)).off + 1, none⟩ = some (.string ((rd_T33 l0 x8_1).f1)) ∧ w'.cell? ⟨(ad137.add ((x8_1).toNat * 4)).block, (ad137.add ((x8_1).toNat * 4)).off + 2, none⟩ = some (.int .u8 ((rd_T33 l0 x8_1).f2)) ∧ w'.cell? ⟨(ad137.add ((x8_1).toNat * 4)).block, (ad137.add ((x8_1).toNat * 4)).off + 3, none⟩ = some (.bool ((rd_T33 l0 x8_1).f3))) (ds := []) #[false, false, false, false, false, false, false, false, false, false, false, false, false, false, false, false, false, false, false, false, false, false, false, false, false, false, false, false, false, false, false, false, false, false, false, false, false] (by kernel_rfl) rfl rfl ⟨((HB.out.cell (World.block_lt_of_cell? w _ hw137_0)).trans hw137_0), ((HB.out.cell (World.block_lt_of_cell? w _ hw137_1)).trans hw137_1), ((HB.out.cell (World.block_lt_of_cell? w _ hw137_2)).trans hw137_2), ((HB.out.cell (World.block_lt_of_cell? w _ hw137_3)).trans hw137_3), ((HB.out.cell (World.block_lt_of_cell? w _ hw138_0)).trans hw138_0), ((HB.out.cell (World.block_lt_of_cell? w _ hw138_1)).trans hw138_1), ((HB.out.cell (World.block_lt_of_cell? w _ hw138_2)).trans hw138_2), ((HB.out.cell (World.block_lt_of_cell? w _ hw138_3)).trans hw138_3), ((HB.out.cell (World.block_lt_of_cell? w _ hw139_0)).trans hw139_0), ((HB.out.cell (World.block_lt_of_cell? w _ hw139_1)).trans hw139_1), ((HB.out.cell (World.block_lt_of_cell? w _ hw139_2)).trans hw139_2), ((HB.out.cell (World.block_lt_of_cell? w _ hw139_3)).trans hw139_3), ((HB.out.cell (World.block_lt_of_cell? w _ hw140_0)).trans hw140_0), ((HB.out.cell (World.block_lt_of_cell? w _ hw140_1)).trans hw140_1), ((HB.out.cell (World.block_lt_of_cell? w _ hw140_2)).trans hw140_2), ((HB.out.cell (World.block_lt_of_cell? w _ hw140_3)).trans hw140_3)⟩ (fun hHeld => ?_); refine with_tabW lamplighterlaw22_done.tab7 lamplighterlaw22_done.bits7 (fun HT_ HW_ => ?_)
          generalize wr.drew = w5 at HO_5 HB hx137_0 hx137_1 hx137_2 hx137_3 hx138_0 hx138_1 hx138_2 hx138_3 hx139_0 hx139_1 hx139_2 hx139_3 hx140_0 hx140_1 hx140_2 hx140_3 hHeld ⊢
          refine pure_ (i := 0) (N := some 16) (v := ?_) (a' := ?_) #[true, false, false, false, false, false, false, false, false, false, false, false, false, false, false, false, false, false, false, false, false, false, false, false, false, false, false, false, false, false, false, false, false, false, false, false, false] rfl rfl (any_of HT_.out (by kernel_rfl)) (fun _ _ _ h => h) (Or.inl ⟨by rfl, ?_⟩) ?_ ?_
          rotate_left
          · intro w'
            go_simp
            with_reducible rfl
          rotate_left
          · simp only [Act.put, List.setIfInBounds_toArray, List.set_cons_zero, List.set_cons_succ, i64_w, i32_w]
            rfl
          refine pure_ (i := 1) (N := some 17) (v := ?_) (a' := ?_) #[true, true, false, false, false, false, false, false, false, false, false, false, false, false, false, false, false, false, false, false, false, false, false, false, false, false, false, false, false, false, false, false, false, false, false, false, false] rfl rfl (any_of HT_.out (by kernel_rfl)) (fun _ _ _ h => h) (Or.inl ⟨by rfl, ?_⟩) ?_ ?_
          rotate_left
          · intro w'
            go_simp
            with_reducible rfl
          rotate_left
          · simp only [Act.put, List.setIfInBounds_toArray, List.set_cons_zero, List.set_cons_succ, i64_w, i32_w]
            rfl
          refine pure_ (i := 2) (N := some 18) (v := ?_) (a' := ?_) #[true, true, true, false, false, false, false, false, false, false, false, false, false, false, false, false, false, false, false, false, false, false, false, false, false, false, false, false, false, false, false, false, false, false, false, false, false] rfl rfl (any_of HT_.out (by kernel_rfl)) (fun _ _ _ h => h) (Or.inl ⟨by rfl, ?_⟩) ?_ ?_
          rotate_left
          · intro w'
            go_simp
            with_reducible rfl
          rotate_left
          · simp only [Act.put, List.setIfInBounds_toArray, List.set_cons_zero, List.set_cons_succ, i64_w, i32_w]
            rfl
          refine pure_ (i := 3) (N := some 19) (v := ?_) (a' := ?_) #[true, true, true, true, false, false, false, false, false, false, false, false, false, false, false, false, false, false, false, false, false, false, false, false, false, false, false, false, false, false, false, false, false, false, false, false, false] rfl rfl (any_of HT_.out (by kernel_rfl)) (fun _ _ _ h => h) (Or.inl ⟨by rfl, ?_⟩) ?_ ?_
          rotate_left
          · intro w'
            go_simp
            with_reducible rfl
          rotate_left
          · simp only [Act.put, List.setIfInBounds_toArray, List.set_cons_zero, List.set_cons_succ, i64_w, i32_w]
            rfl
          refine pure_ (i := 4) (N := some 20) (v := ?_) (a' := ?_) #[true, true, true, true, true, false, false, false, false, false, false, false, false, false, false, false, false, false, false, false, false, false, false, false, false, false, false, false, false, false, false, false, false, false, false, false, false] rfl rfl (any_of HT_.out (by kernel_rfl)) (fun _ _ _ h => h) (Or.inl ⟨by rfl, ?_⟩) ?_ ?_
          rotate_left
          · intro w'
            go_simp
            with_reducible rfl
          rotate_left
          · simp only [Act.put, List.setIfInBounds_toArray, List.set_cons_zero, List.set_cons_succ, i64_w, i32_w]
            rfl
          refine pure_ (i := 5) (N := some 21) (v := ?_) (a' := ?_) #[true, true, true, true, true, true, false, false, false, false, false, false, false, false, false, false, false, false, false, false, false, false, false, false, false, false, false, false, false, false, false, false, false, false, false, false, false] rfl rfl (any_of HT_.out (by kernel_rfl)) (fun _ _ _ h => h) (Or.inl ⟨by rfl, ?_⟩) ?_ ?_
          rotate_left
          · intro w'
            go_simp
            with_reducible rfl
          rotate_left
          · simp only [Act.put, List.setIfInBounds_toArray, List.set_cons_zero, List.set_cons_succ, i64_w, i32_w]
            rfl
          refine pure_ (i := 10) (N := some 26) (v := ?_) (a' := ?_) #[true, true, true, true, true, true, false, false, false, false, true, false, false, false, false, false, false, false, false, false, false, false, false, false, false, false, false, false, false, false, false, false, false, false, false, false, false] rfl rfl (any_of HT_.out (by kernel_rfl)) (fun _ _ _ h => h) (Or.inl ⟨by rfl, ?_⟩) ?_ ?_
          rotate_left
          · intro w'
            go_simp
            with_reducible rfl
          rotate_left
          · simp only [Act.put, List.setIfInBounds_toArray, List.set_cons_zero, List.set_cons_succ, i64_w, i32_w]
            rfl
          refine pure_ (i := 11) (N := some 27) (v := ?_) (a' := ?_) #[true, true, true, true, true, true, false, false, false, false, true, true, false, false, false, false, false, false, false, false, false, false, false, false, false, false, false, false, false, false, false, false, false, false, false, false, false] rfl rfl (any_of HT_.out (by kernel_rfl)) (fun _ _ _ h => h) (Or.inl ⟨by rfl, ?_⟩) ?_ ?_
          rotate_left
          · intro w'
            go_simp
            with_reducible rfl
          rotate_left
          · simp only [Act.put, List.setIfInBounds_toArray, List.set_cons_zero, List.set_cons_succ, i64_w, i32_w]
            rfl
          refine pure_ (i := 12) (N := some 28) (v := ?_) (a' := ?_) #[true, true, true, true, true, true, false, false, false, false, true, true, true, false, false, false, false, false, false, false, false, false, false, false, false, false, false, false, false, false, false, false, false, false, false, false, false] rfl rfl (any_of HT_.out (by kernel_rfl)) (fun _ _ _ h => h) (Or.inl ⟨by rfl, ?_⟩) ?_ ?_
          rotate_left
          · intro w'
            go_simp
            with_reducible rfl
          rotate_left
          · simp only [Act.put, List.setIfInBounds_toArray, List.set_cons_zero, List.set_cons_succ, i64_w, i32_w]
            rfl
          refine pure_ (i := 13) (N := some 29) (v := ?_) (a' := ?_) #[true, true, true, true, true, true, false, false, false, false, true, true, true, true, false, false, false, false, false, false, false, false, false, false, false, false, false, false, false, false, false, false, false, false, false, false, false] rfl rfl (any_of HT_.out (by kernel_rfl)) (fun _ _ _ h => h) (Or.inl ⟨by rfl, ?_⟩) ?_ ?_
          rotate_left
          · intro w'
            go_simp
            with_reducible rfl
          rotate_left
          · simp only [Act.put, List.setIfInBounds_toArray, List.set_cons_zero, List.set_cons_succ, i64_w, i32_w]
            rfl
          refine pure_ (i := 14) (N := some 30) (v := ?_) (a' := ?_) #[true, true, true, true, true, true, false, false, false, false, true, true, true, true, true, false, false, false, false, false, false, false, false, false, false, false, false, false, false, false, false, false, false, false, false, false, false] rfl rfl (any_of HT_.out (by kernel_rfl)) (fun _ _ _ h => h) (Or.inl ⟨by rfl, ?_⟩) ?_ ?_
          rotate_left
          · intro w'
            go_simp
            with_reducible rfl
          rotate_left
          · simp only [Act.put, List.setIfInBounds_toArray, List.set_cons_zero, List.set_cons_succ, i64_w, i32_w]
            rfl
          refine pure_ (i := 15) (N := some 31) (v := ?_) (a' := ?_) #[true, true, true, true, true, true, false, false, false, false, true, true, true, true, true, true, false, false, false, false, false, false, false, false, false, false, false, false, false, false, false, false, false, false, false, false, false] rfl rfl (any_of HT_.out (by kernel_rfl)) (fun _ _ _ h => h) (Or.inl ⟨by rfl, ?_⟩) ?_ ?_
          rotate_left
          · intro w'
            go_simp
            with_reducible rfl
          rotate_left
          · simp only [Act.put, List.setIfInBounds_toArray, List.set_cons_zero, List.set_cons_succ, i64_w, i32_w]
            rfl
          refine pure_ (i := 20) (N := some 36) (v := ?_) (a' := ?_) #[true, true, true, true, true, true, false, false, false, false, true, true, true, true, true, true, false, false, false, false, true, false, false, false, false, false, false, false, false, false, false, false, false, false, false, false, false] rfl rfl (any_of HT_.out (by kernel_rfl)) (fun _ _ _ h => h) (Or.inl ⟨by rfl, ?_⟩) ?_ ?_
          rotate_left
          · intro w'
            go_simp
            with_reducible rfl
          rotate_left
          · simp only [Act.put, List.setIfInBounds_toArray, List.set_cons_zero, List.set_cons_succ, i64_w, i32_w]
            rfl
          refine pure_ (i := 21) (N := some 37) (v := ?_) (a' := ?_) #[true, true, true, true, true, true, false, false, false, false, true, true, true, true, true, true, false, false, false, false, true, true, false, false, false, false, false, false, false, false, false, false, false, false, false, false, false] rfl rfl (any_of HT_.out (by kernel_rfl)) (fun _ _ _ h => h) (Or.inl ⟨by rfl, ?_⟩) ?_ ?_
          rotate_left
          · intro w'
            go_simp
            with_reducible rfl
          rotate_left
          · simp only [Act.put, List.setIfInBounds_toArray, List.set_cons_zero, List.set_cons_succ, i64_w, i32_w]
            rfl
          refine pure_ (i := 22) (N := some 38) (v := ?_) (a' := ?_) #[true, true, true, true, true, true, false, false, false, false, true, true, true, true, true, true, false, false, false, false, true, true, true, false, false, false, false, false, false, false, false, false, false, false, false, false, false] rfl rfl (any_of HT_.out (by kernel_rfl)) (fun _ _ _ h => h) (Or.inl ⟨by rfl, ?_⟩) ?_ ?_
          rotate_left
          · intro w'
            go_simp
            with_reducible rfl
          rotate_left
          · simp only [Act.put, List.setIfInBounds_toArray, List.set_cons_zero, List.set_cons_succ, i64_w, i32_w]
            rfl
          refine pure_ (i := 23) (N := some 39) (v := ?_) (a' := ?_) #[true, true, true, true, true, true, false, false, false, false, true, true, true, true, true, true, false, false, false, false, true, true, true, true, false, false, false, false, false, false, false, false, false, false, false, false, false] rfl rfl (any_of HT_.out (by kernel_rfl)) (fun _ _ _ h => h) (Or.inl ⟨by rfl, ?_⟩) ?_ ?_
          rotate_left
          · intro w'
            go_simp
            with_reducible rfl
          rotate_left
          · simp only [Act.put, List.setIfInBounds_toArray, List.set_cons_zero, List.set_cons_succ, i64_w, i32_w]
            rfl
          refine pure_ (i := 28) (N := some 44) (v := ?_) (a' := ?_) #[true, true, true, true, true, true, false, false, false, false, true, true, true, true, true, true, false, false, false, false, true, true, true, true, false, false, false, false, true, false, false, false, false, false, false, false, false] rfl rfl (any_of HT_.out (by kernel_rfl)) (fun _ _ _ h => h) (Or.inl ⟨by rfl, ?_⟩) ?_ ?_
          rotate_left
          · intro w'
            go_simp
            with_reducible rfl
          rotate_left
          · simp only [Act.put, List.setIfInBounds_toArray, List.set_cons_zero, List.set_cons_succ, i64_w, i32_w]
            rfl
          refine pure_ (i := 29) (N := some 45) (v := ?_) (a' := ?_) #[true, true, true, true, true, true, false, false, false, false, true, true, true, true, true, true, false, false, false, false, true, true, true, true, false, false, false, false, true, true, false, false, false, false, false, false, false] rfl rfl (any_of HT_.out (by kernel_rfl)) (fun _ _ _ h => h) (Or.inl ⟨by rfl, ?_⟩) ?_ ?_
          rotate_left
          · intro w'
            go_simp
            with_reducible rfl
          rotate_left
          · simp only [Act.put, List.setIfInBounds_toArray, List.set_cons_zero, List.set_cons_succ, i64_w, i32_w]
            rfl
          refine pure_ (i := 30) (N := some 46) (v := ?_) (a' := ?_) #[true, true, true, true, true, true, false, false, false, false, true, true, true, true, true, true, false, false, false, false, true, true, true, true, false, false, false, false, true, true, true, false, false, false, false, false, false] rfl rfl (any_of HT_.out (by kernel_rfl)) (fun _ _ _ h => h) (Or.inl ⟨by rfl, ?_⟩) ?_ ?_
          rotate_left
          · intro w'
            go_simp
            with_reducible rfl
          rotate_left
          · simp only [Act.put, List.setIfInBounds_toArray, List.set_cons_zero, List.set_cons_succ, i64_w, i32_w]
            rfl
          refine pure_ (i := 31) (N := some 47) (v := ?_) (a' := ?_) #[true, true, true, true, true, true, false, false, false, false, true, true, true, true, true, true, false, false, false, false, true, true, true, true, false, false, false, false, true, true, true, true, false, false, false, false, false] rfl rfl (any_of HT_.out (by kernel_rfl)) (fun _ _ _ h => h) (Or.inl ⟨by rfl, ?_⟩) ?_ ?_
          rotate_left
          · intro w'
            go_simp
            with_reducible rfl
          rotate_left
          · simp only [Act.put, List.setIfInBounds_toArray, List.set_cons_zero, List.set_cons_succ, i64_w, i32_w]
            rfl
          refine pure_ (i := 33) (N := some 49) (v := ?_) (a' := ?_) #[true, true, true, true, true, true, false, false, false, false, true, true, true, true, true, true, false, false, false, false, true, true, true, true, false, false, false, false, true, true, true, true, false, true, false, false, false] rfl rfl (any_of HT_.out (by kernel_rfl)) (fun _ _ _ h => h) (Or.inl ⟨by rfl, ?_⟩) ?_ ?_
          rotate_left
          · intro w'
            go_simp
            with_reducible rfl
          rotate_left
          · simp only [Act.put, List.setIfInBounds_toArray, List.set_cons_zero, List.set_cons_succ, i64_w, i32_w]
            rfl
          refine take_ (i := 6) (N := some 22) (v := ?_) (a' := ?_) #[true, true, true, true, true, true, true, false, false, false, true, true, true, true, true, true, false, false, false, false, true, true, true, true, false, false, false, false, true, true, true, true, false, true, false, false, false] rfl rfl (take_ofW HT_.out HW_.out (by kernel_rfl)) (fun _ _ _ h => h) (Or.inl ⟨by rfl, ?_⟩) hHeld ?_ ?_
          rotate_left
          · rintro w' ⟨s0, s1, s2, s3, s4, s5, s6, s7, s8, s9, s10, s11, s12, s13, s14, s15⟩
            go_simp
            with_reducible rfl
          rotate_left
          · simp only [Act.put, List.setIfInBounds_toArray, List.set_cons_zero, List.set_cons_succ, i64_w, i32_w]
            rfl
          refine pure_ (i := 7) (N := some 23) (v := ?_) (a' := ?_) #[true, true, true, true, true, true, true, true, false, false, true, true, true, true, true, true, false, false, false, false, true, true, true, true, false, false, false, false, true, true, true, true, false, true, false, false, false] rfl rfl (any_of HT_.out (by kernel_rfl)) (fun _ _ _ h => h) (Or.inl ⟨by rfl, ?_⟩) ?_ ?_
          rotate_left
          · intro w'
            go_simp
            with_reducible rfl
          rotate_left
          · simp only [Act.put, List.setIfInBounds_toArray, List.set_cons_zero, List.set_cons_succ, i64_w, i32_w]
            rfl
          refine pure_ (i := 8) (N := some 24) (v := ?_) (a' := ?_) #[true, true, true, true, true, true, true, true, true, false, true, true, true, true, true, true, false, false, false, false, true, true, true, true, false, false, false, false, true, true, true, true, false, true, false, false, false] rfl rfl (any_of HT_.out (by kernel_rfl)) (fun _ _ _ h => h) (Or.inl ⟨by rfl, ?_⟩) ?_ ?_
          rotate_left
          · intro w'
            go_simp
            with_reducible rfl
          rotate_left
          · simp only [Act.put, List.setIfInBounds_toArray, List.set_cons_zero, List.set_cons_succ, i64_w, i32_w]
            rfl
          refine pure_ (i := 9) (N := some 25) (v := ?_) (a' := ?_) #[true, true, true, true, true, true, true, true, true, true, true, true, true, true, true, true, false, false, false, false, true, true, true, true, false, false, false, false, true, true, true, true, false, true, false, false, false] rfl rfl (any_of HT_.out (by kernel_rfl)) (fun _ _ _ h => h) (Or.inl ⟨by rfl, ?_⟩) ?_ ?_
          rotate_left
          · intro w'
            go_simp
            with_reducible rfl
          rotate_left
          · simp only [Act.put, List.setIfInBounds_toArray, List.set_cons_zero, List.set_cons_succ, i64_w, i32_w]
            rfl
          refine take_ (i := 16) (N := some 32) (v := ?_) (a' := ?_) #[true, true, true, true, true, true, true, true, true, true, true, true, true, true, true, true, true, false, false, false, true, true, true, true, false, false, false, false, true, true, true, true, false, true, false, false, false] rfl rfl (take_ofW HT_.out HW_.out (by kernel_rfl)) (fun _ _ _ h => h) (Or.inl ⟨by rfl, ?_⟩) hHeld ?_ ?_
          rotate_left
          · rintro w' ⟨s0, s1, s2, s3, s4, s5, s6, s7, s8, s9, s10, s11, s12, s13, s14, s15⟩
            go_simp
            with_reducible rfl
          rotate_left
          · simp only [Act.put, List.setIfInBounds_toArray, List.set_cons_zero, List.set_cons_succ, i64_w, i32_w]
            rfl
          refine pure_ (i := 17) (N := some 33) (v := ?_) (a' := ?_) #[true, true, true, true, true, true, true, true, true, true, true, true, true, true, true, true, true, true, false, false, true, true, true, true, false, false, false, false, true, true, true, true, false, true, false, false, false] rfl rfl (any_of HT_.out (by kernel_rfl)) (fun _ _ _ h => h) (Or.inl ⟨by rfl, ?_⟩) ?_ ?_
          rotate_left
          · intro w'
            go_simp
            with_reducible rfl
          rotate_left
          · simp only [Act.put, List.setIfInBounds_toArray, List.set_cons_zero, List.set_cons_succ, i64_w, i32_w]
            rfl
          refine pure_ (i := 18) (N := some 34) (v := ?_) (a' := ?_) #[true, true, true, true, true, true, true, true, true, true, true, true, true, true, true, true, true, true, true, false, true, true, true, true, false, false, false, false, true, true, true, true, false, true, false, false, false] rfl rfl (any_of HT_.out (by kernel_rfl)) (fun _ _ _ h => h) (Or.inl ⟨by rfl, ?_⟩) ?_ ?_
          rotate_left
          · intro w'
            go_simp
            with_reducible rfl
          rotate_left
          · simp only [Act.put, List.setIfInBounds_toArray, List.set_cons_zero, List.set_cons_succ, i64_w, i32_w]
            rfl
          refine pure_ (i := 19) (N := some 35) (v := ?_) (a' := ?_) #[true, true, true, true, true, true, true, true, true, true, true, true, true, true, true, true, true, true, true, true, true, true, true, true, false, false, false, false, true, true, true, true, false, true, false, false, false] rfl rfl (any_of HT_.out (by kernel_rfl)) (fun _ _ _ h => h) (Or.inl ⟨by rfl, ?_⟩) ?_ ?_
          rotate_left
          · intro w'
            go_simp
            with_reducible rfl
          rotate_left
          · simp only [Act.put, List.setIfInBounds_toArray, List.set_cons_zero, List.set_cons_succ, i64_w, i32_w]
            rfl
          refine take_ (i := 24) (N := some 40) (v := ?_) (a' := ?_) #[true, true, true, true, true, true, true, true, true, true, true, true, true, true, true, true, true, true, true, true, true, true, true, true, true, false, false, false, true, true, true, true, false, true, false, false, false] rfl rfl (take_ofW HT_.out HW_.out (by kernel_rfl)) (fun _ _ _ h => h) (Or.inl ⟨by rfl, ?_⟩) hHeld ?_ ?_
          rotate_left
          · rintro w' ⟨s0, s1, s2, s3, s4, s5, s6, s7, s8, s9, s10, s11, s12, s13, s14, s15⟩
            go_simp
            with_reducible rfl
          rotate_left
          · simp only [Act.put, List.setIfInBounds_toArray, List.set_cons_zero, List.set_cons_succ, i64_w, i32_w]
            rfl
          refine pure_ (i := 25) (N := some 41) (v := ?_) (a' := ?_) #[true, true, true, true, true, true, true, true, true, true, true, true, true, true, true, true, true, true, true, true, true, true, true, true, true, true, false, false, true, true, true, true, false, true, false, false, false] rfl rfl (any_of HT_.out (by kernel_rfl)) (fun _ _ _ h => h) (Or.inl ⟨by rfl, ?_⟩) ?_ ?_
          rotate_left
          · intro w'
            go_simp
            with_reducible rfl
          rotate_left
          · simp only [Act.put, List.setIfInBounds_toArray, List.set_cons_zero, List.set_cons_succ, i64_w, i32_w]
            rfl
          refine pure_ (i := 26) (N := some 42) (v := ?_) (a' := ?_) #[true, true, true, true, true, true, true, true, true, true, true, true, true, true, true, true, true, true, true, true, true, true, true, true, true, true, true, false, true, true, true, true, false, true, false, false, false] rfl rfl (any_of HT_.out (by kernel_rfl)) (fun _ _ _ h => h) (Or.inl ⟨by rfl, ?_⟩) ?_ ?_
          rotate_left
          · intro w'
            go_simp
            with_reducible rfl
          rotate_left
          · simp only [Act.put, List.setIfInBounds_toArray, List.set_cons_zero, List.set_cons_succ, i64_w, i32_w]
            rfl
          refine pure_ (i := 27) (N := some 43) (v := ?_) (a' := ?_) #[true, true, true, true, true, true, true, true, true, true, true, true, true, true, true, true, true, true, true, true, true, true, true, true, true, true, true, true, true, true, true, true, false, true, false, false, false] rfl rfl (any_of HT_.out (by kernel_rfl)) (fun _ _ _ h => h) (Or.inl ⟨by rfl, ?_⟩) ?_ ?_
          rotate_left
          · intro w'
            go_simp
            with_reducible rfl
          rotate_left
          · simp only [Act.put, List.setIfInBounds_toArray, List.set_cons_zero, List.set_cons_succ, i64_w, i32_w]
            rfl
          refine take_ (i := 32) (N := some 48) (v := ?_) (a' := ?_) #[true, true, true, true, true, true, true, true, true, true, true, true, true, true, true, true, true, true, true, true, true, true, true, true, true, true, true, true, true, true, true, true, true, true, false, false, false] rfl rfl (take_ofW HT_.out HW_.out (by kernel_rfl)) (fun _ _ _ h => h) (Or.inl ⟨by rfl, ?_⟩) hHeld ?_ ?_
          rotate_left
          · rintro w' ⟨s0, s1, s2, s3, s4, s5, s6, s7, s8, s9, s10, s11, s12, s13, s14, s15⟩
            go_simp
            with_reducible rfl
          rotate_left
          · simp only [Act.put, List.setIfInBounds_toArray, List.set_cons_zero, List.set_cons_succ, i64_w, i32_w]
            rfl
          refine pure_ (i := 34) (N := some 50) (v := ?_) (a' := ?_) #[true, true, true, true, true, true, true, true, true, true, true, true, true, true, true, true, true, true, true, true, true, true, true, true, true, true, true, true, true, true, true, true, true, true, true, false, false] rfl rfl (any_of HT_.out (by kernel_rfl)) (fun _ _ _ h => h) (Or.inl ⟨by rfl, ?_⟩) ?_ ?_
          rotate_left
          · intro w'
            go_simp
            with_reducible rfl
          rotate_left
          · simp only [Act.put, List.setIfInBounds_toArray, List.set_cons_zero, List.set_cons_succ, i64_w, i32_w]
            rfl
          refine one_ (i := 35) (N := some 9) #[true, true, true, true, true, true, true, true, true, true, true, true, true, true, true, true, true, true, true, true, true, true, true, true, true, true, true, true, true, true, true, true, true, true, true, true, false] rfl rfl (one_of HT_.out (by kernel_rfl)) (by decide) (fun K hK => ?_)
          refine box_step ?hg (N := 9) ?hd (cs := #[.int .i64 0, .int .i64 0, .int .i64 0, .string (⟨#[]⟩ : ByteArray), .bool false, .bool false]) (t := 37) ?hr ?_; (case hd => rfl); (case hg => rfl); (case hr => first | (go_simp; done) | (go_simp; rfl))
          intro gb141 hg w6 hbox hb
          have n0_ := Aside0.mk (Kd.R_below (Kd.R_elderB (by (with_reducible repeat (first | apply Kd.R_alloc | apply Kd.R_drewN | apply Kd.R_drew)); exact HO_5.out) gb141 (Nat.le_of_eq hg.symm)) hb)
          have n1_ := Aside0.mk (below_step (by repeat (first | (with_reducible first | exact HB.out | apply below_alloc | apply pw_below_drewN | apply below_drew1) | exact HB.out)) hb)
          have n2_ := Aside0.mk (hbox)
          have n3_ := Aside0.mk ((by rw [hg]; exact (below_size (by repeat (first | (with_reducible first | exact HB.out | apply below_alloc | apply pw_below_drewN | apply below_drew1) | exact HB.out))) : w.heap.size ≤ gb141))
          have n4_ := Aside0.mk ((by rw [hg]; exact (below_size (by repeat (first | (with_reducible first | exact HB.out | apply below_alloc | apply pw_below_drewN | apply below_drew1) | exact HB.out))) : w.heap.size ≤ gb141))
          clear HO_5
          clear HB
          have HO_5 := n0_
          have HB := n1_
          have BK141 := n2_
          have GW141 := n3_
          have GE141 := n4_
          clear n0_ n1_ n2_ n3_ n4_
          clear hb hbox hg
          refine hK.out _ _ ⟨((HB.out.cell (World.block_lt_of_cell? w _ hw137_0)).trans hw137_0), ((HB.out.cell (World.block_lt_of_cell? w _ hw137_1)).trans hw137_1), ((HB.out.cell (World.block_lt_of_cell? w _ hw137_2)).trans hw137_2), ((HB.out.cell (World.block_lt_of_cell? w _ hw137_3)).trans hw137_3), ((HB.out.cell (World.block_lt_of_cell? w _ hw138_0)).trans hw138_0), ((HB.out.cell (World.block_lt_of_cell? w _ hw138_1)).trans hw138_1), ((HB.out.cell (World.block_lt_of_cell? w _ hw138_2)).trans hw138_2), ((HB.out.cell (World.block_lt_of_cell? w _ hw138_3)).trans hw138_3), ((HB.out.cell (World.block_lt_of_cell? w _ hw139_0)).trans hw139_0), ((HB.out.cell (World.block_lt_of_cell? w _ hw139_1)).trans hw139_1), ((HB.out.cell (World.block_lt_of_cell? w _ hw139_2)).trans hw139_2), ((HB.out.cell (World.block_lt_of_cell? w _ hw139_3)).trans hw139_3), ((HB.out.cell (World.block_lt_of_cell? w _ hw140_0)).trans hw140_0), ((HB.out.cell (World.block_lt_of_cell? w _ hw140_1)).trans hw140_1), ((HB.out.cell (World.block_lt_of_cell? w _ hw140_2)).trans hw140_2), ((HB.out.cell (World.block_lt_of_cell? w _ hw140_3)).trans hw140_3)⟩ (fun hHeld => ?_)
          clear hK K
          refine norm_ (a' := ?_) ?_ ?_
          rotate_left
          · show Act.put _ (some 9) _ = _
            simp only [Act.put, List.setIfInBounds_toArray, List.set_cons_zero, List.set_cons_succ, i64_w, i32_w]
            rfl
          refine one_ (i := 36) (N := none) #[true, true, true, true, true, true, true, true, true, true, true, true, true, true, true, true, true, true, true, true, true, true, true, true, true, true, true, true, true, true, true, true, true, true, true, true, true] rfl rfl (one_of HT_.out (by kernel_rfl)) (by decide) (fun K hK => ?_)
          have hs7 : w6.cell? ⟨gb141, 0, none⟩ = some (.int .i64 0) := (blk_cell BK141.out 0).trans rfl
          have hfs7 := blk_frozen BK141.out 0
          have hs8 : w6.cell? ⟨gb141, 1, none⟩ = some (.int .i64 0) := (blk_cell BK141.out 1).trans rfl
          have hfs8 := blk_frozen BK141.out 1
          have hs9 : w6.cell? ⟨gb141, 2, none⟩ = some (.int .i64 0) := (blk_cell BK141.out 2).trans rfl
          have hfs9 := blk_frozen BK141.out 2
          have hs10 : w6.cell? ⟨gb141, 3, none⟩ = some (.string (⟨#[]⟩ : ByteArray)) := (blk_cell BK141.out 3).trans rfl
          have hfs10 := blk_frozen BK141.out 3
          have hs11 : w6.cell? ⟨gb141, 4, none⟩ = some (.bool false) := (blk_cell BK141.out 4).trans rfl
          have hfs11 := blk_frozen BK141.out 4
          have hs12 : w6.cell? ⟨gb141, 5, none⟩ = some (.bool false) := (blk_cell BK141.out 5).trans rfl
          have hfs12 := blk_frozen BK141.out 5
          refine skip_ (w1 := ?_) (by rfl) rfl ?_ ?_
          rotate_left
          · go_simp
            rfl
          refine hK.out _ _ ⟨((cell_far (p := ⟨gb141, _, none⟩) (by first | exact Nat.ne_of_lt (Nat.lt_of_lt_of_le (by have := World.block_lt_of_cell? _ _ hw137_0; first | rwa [add_block] at this | exact this) GW141.out) | (rw [add_block]; exact Nat.ne_of_lt (Nat.lt_of_lt_of_le (by have := World.block_lt_of_cell? _ _ hw137_0; first | rwa [add_block] at this | exact this) GW141.out)) | (show (Addr.add _ _).block ≠ _; rw [add_block]; exact Nat.ne_of_lt (Nat.lt_of_lt_of_le (by have := World.block_lt_of_cell? _ _ hw137_0; first | rwa [add_block] at this | exact this) GW141.out)) | (dsimp only; exact Nat.ne_of_lt (Nat.lt_of_lt_of_le (by have := World.block_lt_of_cell? _ _ hw137_0; first | rwa [add_block] at this | exact this) GW141.out))) _).trans (((cell_far (p := ⟨gb141, _, none⟩) (by first | exact Nat.ne_of_lt (Nat.lt_of_lt_of_le (by have := World.block_lt_of_cell? _ _ hw137_0; first | rwa [add_block] at this | exact this) GW141.out) | (rw [add_block]; exact Nat.ne_of_lt (Nat.lt_of_lt_of_le (by have := World.block_lt_of_cell? _ _ hw137_0; first | rwa [add_block] at this | exact this) GW141.out)) | (show (Addr.add _ _).block ≠ _; rw [add_block]; exact Nat.ne_of_lt (Nat.lt_of_lt_of_le (by have := World.block_lt_of_cell? _ _ hw137_0; first | rwa [add_block] at this | exact this) GW141.out)) | (dsimp only; exact Nat.ne_of_lt (Nat.lt_of_lt_of_le (by have := World.block_lt_of_cell? _ _ hw137_0; first | rwa [add_block] at this | exact this) GW141.out))) _).trans (((cell_far (p := ⟨gb141, _, none⟩) (by first | exact Nat.ne_of_lt (Nat.lt_of_lt_of_le (by have := World.block_lt_of_cell? _ _ hw137_0; first | rwa [add_block] at this | exact this) GW141.out) | (rw [add_block]; exact Nat.ne_of_lt (Nat.lt_of_lt_of_le (by have := World.block_lt_of_cell? _ _ hw137_0; first | rwa [add_block] at this | exact this) GW141.out)) | (show (Addr.add _ _).block ≠ _; rw [add_block]; exact Nat.ne_of_lt (Nat.lt_of_lt_of_le (by have := World.block_lt_of_cell? _ _ hw137_0; first | rwa [add_block] at this | exact this) GW141.out)) | (dsimp only; exact Nat.ne_of_lt (Nat.lt_of_lt_of_le (by have := World.block_lt_of_cell? _ _ hw137_0; first | rwa [add_block] at this | exact this) GW141.out))) _).trans (((cell_far (p := ⟨gb141, _, none⟩) (by first | exact Nat.ne_of_lt (Nat.lt_of_lt_of_le (by have := World.block_lt_of_cell? _ _ hw137_0; first | rwa [add_block] at this | exact this) GW141.out) | (rw [add_block]; exact Nat.ne_of_lt (Nat.lt_of_lt_of_le (by have := World.block_lt_of_cell? _ _ hw137_0; first | rwa [add_block] at this | exact this) GW141.out)) | (show (Addr.add _ _).block ≠ _; rw [add_block]; exact Nat.ne_of_lt (Nat.lt_of_lt_of_le (by have := World.block_lt_of_cell? _ _ hw137_0; first | rwa [add_block] at this | exact this) GW141.out)) | (dsimp only; exact Nat.ne_of_lt (Nat.lt_of_lt_of_le (by have := World.block_lt_of_cell? _ _ hw137_0; first | rwa [add_block] at this | exact this) GW141.out))) _).trans (((cell_far (p := ⟨gb141, _, none⟩) (by first | exact Nat.ne_of_lt (Nat.lt_of_lt_of_le (by have := World.block_lt_of_cell? _ _ hw137_0; first | rwa [add_block] at this | exact this) GW141.out) | (rw [add_block]; exact Nat.ne_of_lt (Nat.lt_of_lt_of_le (by have := World.block_lt_of_cell? _ _ hw137_0; first | rwa [add_block] at this | exact this) GW141.out)) | (show (Addr.add _ _).block ≠ _; rw [add_block]; exact Nat.ne_of_lt (Nat.lt_of_lt_of_le (by have := World.block_lt_of_cell? _ _ hw137_0; first | rwa [add_block] at this | exact this) GW141.out)) | (dsimp only; exact Nat.ne_of_lt (Nat.lt_of_lt_of_le (by have := World.block_lt_of_cell? _ _ hw137_0; first | rwa [add_block] at this | exact this) GW141.out))) _).trans (((cell_far (p := ⟨gb141, _, none⟩) (by first | exact Nat.ne_of_lt (Nat.lt_of_lt_of_le (by have := World.block_lt_of_cell? _ _ hw137_0; first | rwa [add_block] at this | exact this) GW141.out) | (rw [add_block]; exact Nat.ne_of_lt (Nat.lt_of_lt_of_le (by have := World.block_lt_of_cell? _ _ hw137_0; first | rwa [add_block] at this | exact this) GW141.out)) | (show (Addr.add _ _).block ≠ _; rw [add_block]; exact Nat.ne_of_lt (Nat.lt_of_lt_of_le (by have := World.block_lt_of_cell? _ _ hw137_0; first | rwa [add_block] at this | exact this) GW141.out)) | (dsimp only; exact Nat.ne_of_lt (Nat.lt_of_lt_of_le (by have := World.block_lt_of_cell? _ _ hw137_0; first | rwa [add_block] at this | exact this) GW141.out))) _).trans (hHeld.1)))))))))))), ((cell_far (p := ⟨gb141, _, none⟩) (by first | exact Nat.ne_of_lt (Nat.lt_of_lt_of_le (by have := World.block_lt_of_cell? _ _ hw137_1; first | rwa [add_block] at this | exact this) GW141.out) | (rw [add_block]; exact Nat.ne_of_lt (Nat.lt_of_lt_of_le (by have := World.block_lt_of_cell? _ _ hw137_1; first | rwa [add_block] at this | exact this) GW141.out)) | (show (Addr.add _ _).block ≠ _; rw [add_block]; exact Nat.ne_of_lt (Nat.lt_of_lt_of_le (by have := World.block_lt_of_cell? _ _ hw137_1; first | rwa [add_block] at this | exact this) GW141.out)) | (dsimp only; exact Nat.ne_of_lt (Nat.lt_of_lt_of_le (by have := World.block_lt_of_cell? _ _ hw137_1; first | rwa [add_block] at this | exact this) GW141.out))) _).trans (((cell_far (p := ⟨gb141, _, none⟩) (by first | exact Nat.ne_of_lt (Nat.lt_of_lt_of_le (by have := World.block_lt_of_cell? _ _ hw137_1; first | rwa [add_block] at this | exact this) GW141.out) | (rw [add_block]; exact Nat.ne_of_lt (Nat.lt_of_lt_of_le (by have := World.block_lt_of_cell? _ _ hw137_1; first | rwa [add_block] at this | exact this) GW141.out)) | (show (Addr.add _ _).block ≠ _; rw [add_block]; exact Nat.ne_of_lt (Nat.lt_of_lt_of_le (by have := World.block_lt_of_cell? _ _ hw137_1; first | rwa [add_block] at this | exact this) GW141.out)) | (dsimp only; exact Nat.ne_of_lt (Nat.lt_of_lt_of_le (by have := World.block_lt_of_cell? _ _ hw137_1; first | rwa [add_block] at this | exact this) GW141.out))) _).trans (((cell_far (p := ⟨gb141, _, none⟩) (by first | exact Nat.ne_of_lt (Nat.lt_of_lt_of_le (by have := World.block_lt_of_cell? _ _ hw137_1; first | rwa [add_block] at this | exact this) GW141.out) | (rw [add_block]; exact Nat.ne_of_lt (Nat.lt_of_lt_of_le (by have := World.block_lt_of_cell? _ _ hw137_1; first | rwa [add_block] at this | exact this) GW141.out)) | (show (Addr.add _ _).block ≠ _; rw [add_block]; exact Nat.ne_of_lt (Nat.lt_of_lt_of_le (by have := World.block_lt_of_cell? _ _ hw137_1; first | rwa [add_block] at this | exact this) GW141.out)) | (dsimp only; exact Nat.ne_of_lt (Nat.lt_of_lt_of_le (by have := World.block_lt_of_cell? _ _ hw137_1; first | rwa [add_block] at this | exact this) GW141.out))) _).trans (((cell_far (p := ⟨gb141, _, none⟩) (by first | exact Nat.ne_of_lt (Nat.lt_of_lt_of_le (by have := World.block_lt_of_cell? _ _ hw137_1; first | rwa [add_block] at this | exact this) GW141.out) | (rw [add_block]; exact Nat.ne_of_lt (Nat.lt_of_lt_of_le (by have := World.block_lt_of_cell? _ _ hw137_1; first | rwa [add_block] at this | exact this) GW141.out)) | (show (Addr.add _ _).block ≠ _; rw [add_block]; exact Nat.ne_of_lt (Nat.lt_of_lt_of_le (by have := World.block_lt_of_cell? _ _ hw137_1; first | rwa [add_block] at this | exact this) GW141.out)) | (dsimp only; exact Nat.ne_of_lt (Nat.lt_of_lt_of_le (by have := World.block_lt_of_cell? _ _ hw137_1; first | rwa [add_block] at this | exact this) GW141.out))) _).trans (((cell_far (p := ⟨gb141, _, none⟩) (by first | exact Nat.ne_of_lt (Nat.lt_of_lt_of_le (by have := World.block_lt_of_cell? _ _ hw137_1; first | rwa [add_block] at this | exact this) GW141.out) | (rw [add_block]; exact Nat.ne_of_lt (Nat.lt_of_lt_of_le (by have := World.block_lt_of_cell? _ _ hw137_1; first | rwa [add_block] at this | exact this) GW141.out)) | (show (Addr.add _ _).block ≠ _; rw [add_block]; exact Nat.ne_of_lt (Nat.lt_of_lt_of_le (by have := World.block_lt_of_cell? _ _ hw137_1; first | rwa [add_block] at this | exact this) GW141.out)) | (dsimp only; exact Nat.ne_of_lt (Nat.lt_of_lt_of_le (by have := World.block_lt_of_cell? _ _ hw137_1; first | rwa [add_block] at this | exact this) GW141.out))) _).trans (((cell_far (p := ⟨gb141, _, none⟩) (by first | exact Nat.ne_of_lt (Nat.lt_of_lt_of_le (by have := World.block_lt_of_cell? _ _ hw137_1; first | rwa [add_block] at this | exact this) GW141.out) | (rw [add_block]; exact Nat.ne_of_lt (Nat.lt_of_lt_of_le (by have := World.block_lt_of_cell? _ _ hw137_1; first | rwa [add_block] at this | exact this) GW141.out)) | (show (Addr.add _ _).block ≠ _; rw [add_block]; exact Nat.ne_of_lt (Nat.lt_of_lt_of_le (by have := World.block_lt_of_cell? _ _ hw137_1; first | rwa [add_block] at this | exact this) GW141.out)) | (dsimp only; exact Nat.ne_of_lt (Nat.lt_of_lt_of_le (by have := World.block_lt_of_cell? _ _ hw137_1; first | rwa [add_block] at this | exact this) GW141.out))) _).trans (hHeld.2.1)))))))))))), ((cell_far (p := ⟨gb141, _, none⟩) (by first | exact Nat.ne_of_lt (Nat.lt_of_lt_of_le (by have := World.block_lt_of_cell? _ _ hw137_2; first | rwa [add_block] at this | exact this) GW141.out) | (rw [add_block]; exact Nat.ne_of_lt (Nat.lt_of_lt_of_le (by have := World.block_lt_of_cell? _ _ hw137_2; first | rwa [add_block] at this | exact this) GW141.out)) | (show (Addr.add _ _).block ≠ _; rw [add_block]; exact Nat.ne_of_lt (Nat.lt_of_lt_of_le (by have := World.block_lt_of_cell? _ _ hw137_2; first | rwa [add_block] at this | exact this) GW141.out)) | (dsimp only; exact Nat.ne_of_lt (Nat.lt_of_lt_of_le (by have := World.block_lt_of_cell? _ _ hw137_2; first | rwa [add_block] at this | exact this) GW141.out))) _).trans (((cell_far (p := ⟨gb141, _, none⟩) (by first | exact Nat.ne_of_lt (Nat.lt_of_lt_of_le (by have := World.block_lt_of_cell? _ _ hw137_2; first | rwa [add_block] at this | exact this) GW141.out) | (rw [add_block]; exact Nat.ne_of_lt (Nat.lt_of_lt_of_le (by have := World.block_lt_of_cell? _ _ hw137_2; first | rwa [add_block] at this | exact this) GW141.out)) | (show (Addr.add _ _).block ≠ _; rw [add_block]; exact Nat.ne_of_lt (Nat.lt_of_lt_of_le (by have := World.block_lt_of_cell? _ _ hw137_2; first | rwa [add_block] at this | exact this) GW141.out)) | (dsimp only; exact Nat.ne_of_lt (Nat.lt_of_lt_of_le (by have := World.block_lt_of_cell? _ _ hw137_2; first | rwa [add_block] at this | exact this) GW141.out))) _).trans (((cell_far (p := ⟨gb141, _, none⟩) (by first | exact Nat.ne_of_lt (Nat.lt_of_lt_of_le (by have := World.block_lt_of_cell? _ _ hw137_2; first | rwa [add_block] at this | exact this) GW141.out) | (rw [add_block]; exact Nat.ne_of_lt (Nat.lt_of_lt_of_le (by have := World.block_lt_of_cell? _ _ hw137_2; first | rwa [add_block] at this | exact this) GW141.out)) | (show (Addr.add _ _).block ≠ _; rw [add_block]; exact Nat.ne_of_lt (Nat.lt_of_lt_of_le (by have := World.block_lt_of_cell? _ _ hw137_2; first | rwa [add_block] at this | exact this) GW141.out)) | (dsimp only; exact Nat.ne_of_lt (Nat.lt_of_lt_of_le (by have := World.block_lt_of_cell? _ _ hw137_2; first | rwa [add_block] at this | exact this) GW141.out))) _).trans (((cell_far (p := ⟨gb141, _, none⟩) (by first | exact Nat.ne_of_lt (Nat.lt_of_lt_of_le (by have := World.block_lt_of_cell? _ _ hw137_2; first | rwa [add_block] at this | exact this) GW141.out) | (rw [add_block]; exact Nat.ne_of_lt (Nat.lt_of_lt_of_le (by have := World.block_lt_of_cell? _ _ hw137_2; first | rwa [add_block] at this | exact this) GW141.out)) | (show (Addr.add _ _).block ≠ _; rw [add_block]; exact Nat.ne_of_lt (Nat.lt_of_lt_of_le (by have := World.block_lt_of_cell? _ _ hw137_2; first | rwa [add_block] at this | exact this) GW141.out)) | (dsimp only; exact Nat.ne_of_lt (Nat.lt_of_lt_of_le (by have := World.block_lt_of_cell? _ _ hw137_2; first | rwa [add_block] at this | exact this) GW141.out))) _).trans (((cell_far (p := ⟨gb141, _, none⟩) (by first | exact Nat.ne_of_lt (Nat.lt_of_lt_of_le (by have := World.block_lt_of_cell? _ _ hw137_2; first | rwa [add_block] at this | exact this) GW141.out) | (rw [add_block]; exact Nat.ne_of_lt (Nat.lt_of_lt_of_le (by have := World.block_lt_of_cell? _ _ hw137_2; first | rwa [add_block] at this | exact this) GW141.out)) | (show (Addr.add _ _).block ≠ _; rw [add_block]; exact Nat.ne_of_lt (Nat.lt_of_lt_of_le (by have := World.block_lt_of_cell? _ _ hw137_2; first | rwa [add_block] at this | exact this) GW141.out)) | (dsimp only; exact Nat.ne_of_lt (Nat.lt_of_lt_of_le (by have := World.block_lt_of_cell? _ _ hw137_2; first | rwa [add_block] at this | exact this) GW141.out))) _).trans (((cell_far (p := ⟨gb141, _, none⟩) (by first | exact Nat.ne_of_lt (Nat.lt_of_lt_of_le (by have := World.block_lt_of_cell? _ _ hw137_2; first | rwa [add_block] at this | exact this) GW141.out) | (rw [add_block]; exact Nat.ne_of_lt (Nat.lt_of_lt_of_le (by have := World.block_lt_of_cell? _ _ hw137_2; first | rwa [add_block] at this | exact this) GW141.out)) | (show (Addr.add _ _).block ≠ _; rw [add_block]; exact Nat.ne_of_lt (Nat.lt_of_lt_of_le (by have := World.block_lt_of_cell? _ _ hw137_2; first | rwa [add_block] at this | exact this) GW141.out)) | (dsimp only; exact Nat.ne_of_lt (Nat.lt_of_lt_of_le (by have := World.block_lt_of_cell? _ _ hw137_2; first | rwa [add_block] at this | exact this) GW141.out))) _).trans (hHeld.2.2.1)))))))))))), ((cell_far (p := ⟨gb141, _, none⟩) (by first | exact Nat.ne_of_lt (Nat.lt_of_lt_of_le (by have := World.block_lt_of_cell? _ _ hw137_3; first | rwa [add_block] at this | exact this) GW141.out) | (rw [add_block]; exact Nat.ne_of_lt (Nat.lt_of_lt_of_le (by have := World.block_lt_of_cell? _ _ hw137_3; first | rwa [add_block] at this | exact this) GW141.out)) | (show (Addr.add _ _).block ≠ _; rw [add_block]; exact Nat.ne_of_lt (Nat.lt_of_lt_of_le (by have := World.block_lt_of_cell? _ _ hw137_3; first | rwa [add_block] at this | exact this) GW141.out)) | (dsimp only; exact Nat.ne_of_lt (Nat.lt_of_lt_of_le (by have := World.block_lt_of_cell? _ _ hw137_3; first | rwa [add_block] at this | exact this) GW141.out))) _).trans (((cell_far (p := ⟨gb141, _, none⟩) (by first | exact Nat.ne_of_lt (Nat.lt_of_lt_of_le (by have := World.block_lt_of_cell? _ _ hw137_3; first | rwa [add_block] at this | exact this) GW141.out) | (rw [add_block]; exact Nat.ne_of_lt (Nat.lt_of_lt_of_le (by have := World.block_lt_of_cell? _ _ hw137_3; first | rwa [add_block] at this | exact this) GW141.out)) | (show (Addr.add _ _).block ≠ _; rw [add_block]; exact Nat.ne_of_lt (Nat.lt_of_lt_of_le (by have := World.block_lt_of_cell? _ _ hw137_3; first | rwa [add_block] at this | exact this) GW141.out)) | (dsimp only; exact Nat.ne_of_lt (Nat.lt_of_lt_of_le (by have := World.block_lt_of_cell? _ _ hw137_3; first | rwa [add_block] at this | exact this) GW141.out))) _).trans (((cell_far (p := ⟨gb141, _, none⟩) (by first | exact Nat.ne_of_lt (Nat.lt_of_lt_of_le (by have := World.block_lt_of_cell? _ _ hw137_3; first | rwa [add_block] at this | exact this) GW141.out) | (rw [add_block]; exact Nat.ne_of_lt (Nat.lt_of_lt_of_le (by have := World.block_lt_of_cell? _ _ hw137_3; first | rwa [add_block] at this | exact this) GW141.out)) | (show (Addr.add _ _).block ≠ _; rw [add_block]; exact Nat.ne_of_lt (Nat.lt_of_lt_of_le (by have := World.block_lt_of_cell? _ _ hw137_3; first | rwa [add_block] at this | exact this) GW141.out)) | (dsimp only; exact Nat.ne_of_lt (Nat.lt_of_lt_of_le (by have := World.block_lt_of_cell? _ _ hw137_3; first | rwa [add_block] at this | exact this) GW141.out))) _).trans (((cell_far (p := ⟨gb141, _, none⟩) (by first | exact Nat.ne_of_lt (Nat.lt_of_lt_of_le (by have := World.block_lt_of_cell? _ _ hw137_3; first | rwa [add_block] at this | exact this) GW141.out) | (rw [add_block]; exact Nat.ne_of_lt (Nat.lt_of_lt_of_le (by have := World.block_lt_of_cell? _ _ hw137_3; first | rwa [add_block] at this | exact this) GW141.out)) | (show (Addr.add _ _).block ≠ _; rw [add_block]; exact Nat.ne_of_lt (Nat.lt_of_lt_of_le (by have := World.block_lt_of_cell? _ _ hw137_3; first | rwa [add_block] at this | exact this) GW141.out)) | (dsimp only; exact Nat.ne_of_lt (Nat.lt_of_lt_of_le (by have := World.block_lt_of_cell? _ _ hw137_3; first | rwa [add_block] at this | exact this) GW141.out))) _).trans (((cell_far (p := ⟨gb141, _, none⟩) (by first | exact Nat.ne_of_lt (Nat.lt_of_lt_of_le (by have := World.block_lt_of_cell? _ _ hw137_3; first | rwa [add_block] at this | exact this) GW141.out) | (rw [add_block]; exact Nat.ne_of_lt (Nat.lt_of_lt_of_le (by have := World.block_lt_of_cell? _ _ hw137_3; first | rwa [add_block] at this | exact this) GW141.out)) | (show (Addr.add _ _).block ≠ _; rw [add_block]; exact Nat.ne_of_lt (Nat.lt_of_lt_of_le (by have := World.block_lt_of_cell? _ _ hw137_3; first | rwa [add_block] at this | exact this) GW141.out)) | (dsimp only; exact Nat.ne_of_lt (Nat.lt_of_lt_of_le (by have := World.block_lt_of_cell? _ _ hw137_3; first | rwa [add_block] at this | exact this) GW141.out))) _).trans (((cell_far (p := ⟨gb141, _, none⟩) (by first | exact Nat.ne_of_lt (Nat.lt_of_lt_of_le (by have := World.block_lt_of_cell? _ _ hw137_3; first | rwa [add_block] at this | exact this) GW141.out) | (rw [add_block]; exact Nat.ne_of_lt (Nat.lt_of_lt_of_le (by have := World.block_lt_of_cell? _ _ hw137_3; first | rwa [add_block] at this | exact this) GW141.out)) | (show (Addr.add _ _).block ≠ _; rw [add_block]; exact Nat.ne_of_lt (Nat.lt_of_lt_of_le (by have := World.block_lt_of_cell? _ _ hw137_3; first | rwa [add_block] at this | exact this) GW141.out)) | (dsimp only; exact Nat.ne_of_lt (Nat.lt_of_lt_of_le (by have := World.block_lt_of_cell? _ _ hw137_3; first | rwa [add_block] at this | exact this) GW141.out))) _).trans (hHeld.2.2.2.1)))))))))))), ((cell_far (p := ⟨gb141, _, none⟩) (by first | exact Nat.ne_of_lt (Nat.lt_of_lt_of_le (by have := World.block_lt_of_cell? _ _ hw138_0; first | rwa [add_block] at this | exact this) GW141.out) | (rw [add_block]; exact Nat.ne_of_lt (Nat.lt_of_lt_of_le (by have := World.block_lt_of_cell? _ _ hw138_0; first | rwa [add_block] at this | exact this) GW141.out)) | (show (Addr.add _ _).block ≠ _; rw [add_block]; exact Nat.ne_of_lt (Nat.lt_of_lt_of_le (by have := World.block_lt_of_cell? _ _ hw138_0; first | rwa [add_block] at this | exact this) GW141.out)) | (dsimp only; exact Nat.ne_of_lt (Nat.lt_of_lt_of_le (by have := World.block_lt_of_cell? _ _ hw138_0; first | rwa [add_block] at this | exact this) GW141.out))) _).trans (((cell_far (p := ⟨gb141, _, none⟩) (by first | exact Nat.ne_of_lt (Nat.lt_of_lt_of_le (by have := World.block_lt_of_cell? _ _ hw138_0; first | rwa [add_block] at this | exact this) GW141.out) | (rw [add_block]; exact Nat.ne_of_lt (Nat.lt_of_lt_of_le (by have := World.block_lt_of_cell? _ _ hw138_0; first | rwa [add_block] at this | exact this) GW141.out)) | (show (Addr.add _ _).block ≠ _; rw [add_block]; exact Nat.ne_of_lt (Nat.lt_of_lt_of_le (by have := World.block_lt_of_cell? _ _ hw138_0; first | rwa [add_block] at this | exact this) GW141.out)) | (dsimp only; exact Nat.ne_of_lt (Nat.lt_of_lt_of_le (by have := World.block_lt_of_cell? _ _ hw138_0; first | rwa [add_block] at this | exact this) GW141.out))) _).trans (((cell_far (p := ⟨gb141, _, none⟩) (by first | exact Nat.ne_of_lt (Nat.lt_of_lt_of_le (by have := World.block_lt_of_cell? _ _ hw138_0; first | rwa [add_block] at this | exact this) GW141.out) | (rw [add_block]; exact Nat.ne_of_lt (Nat.lt_of_lt_of_le (by have := World.block_lt_of_cell? _ _ hw138_0; first | rwa [add_block] at this | exact this) GW141.out)) | (show (Addr.add _ _).block ≠ _; rw [add_block]; exact Nat.ne_of_lt (Nat.lt_of_lt_of_le (by have := World.block_lt_of_cell? _ _ hw138_0; first | rwa [add_block] at this | exact this) GW141.out)) | (dsimp only; exact Nat.ne_of_lt (Nat.lt_of_lt_of_le (by have := World.block_lt_of_cell? _ _ hw138_0; first | rwa [add_block] at this | exact this) GW141.out))) _).trans (((cell_far (p := ⟨gb141, _, none⟩) (by first | exact Nat.ne_of_lt (Nat.lt_of_lt_of_le (by have := World.block_lt_of_cell? _ _ hw138_0; first | rwa [add_block] at this | exact this) GW141.out) | (rw [add_block]; exact Nat.ne_of_lt (Nat.lt_of_lt_of_le (by have := World.block_lt_of_cell? _ _ hw138_0; first | rwa [add_block] at this | exact this) GW141.out)) | (show (Addr.add _ _).block ≠ _; rw [add_block]; exact Nat.ne_of_lt (Nat.lt_of_lt_of_le (by have := World.block_lt_of_cell? _ _ hw138_0; first | rwa [add_block] at this | exact this) GW141.out)) | (dsimp only; exact Nat.ne_of_lt (Nat.lt_of_lt_of_le (by have := World.block_lt_of_cell? _ _ hw138_0; first | rwa [add_block] at this | exact this) GW141.out))) _).trans (((cell_far (p := ⟨gb141, _, none⟩) (by first | exact Nat.ne_of_lt (Nat.lt_of_lt_of_le (by have := World.block_lt_of_cell? _ _ hw138_0; first | rwa [add_block] at this | exact this) GW141.out) | (rw [add_block]; exact Nat.ne_of_lt (Nat.lt_of_lt_of_le (by have := World.block_lt_of_cell? _ _ hw138_0; first | rwa [add_block] at this | exact this) GW141.out)) | (show (Addr.add _ _).block ≠ _; rw [add_block]; exact Nat.ne_of_lt (Nat.lt_of_lt_of_le (by have := World.block_lt_of_cell? _ _ hw138_0; first | rwa [add_block] at this | exact this) GW141.out)) | (dsimp only; exact Nat.ne_of_lt (Nat.lt_of_lt_of_le (by have := World.block_lt_of_cell? _ _ hw138_0; first | rwa [add_block] at this | exact this) GW141.out))) _).trans (((cell_far (p := ⟨gb141, _, none⟩) (by first | exact Nat.ne_of_lt (Nat.lt_of_lt_of_le (by have := World.block_lt_of_cell? _ _ hw138_0; first | rwa [add_block] at this | exact this) GW141.out) | (rw [add_block]; exact Nat.ne_of_lt (Nat.lt_of_lt_of_le (by have := World.block_lt_of_cell? _ _ hw138_0; first | rwa [add_block] at this | exact this) GW141.out)) | (show (Addr.add _ _).block ≠ _; rw [add_block]; exact Nat.ne_of_lt (Nat.lt_of_lt_of_le (by have := World.block_lt_of_cell? _ _ hw138_0; first | rwa [add_block] at this | exact this) GW141.out)) | (dsimp only; exact Nat.ne_of_lt (Nat.lt_of_lt_of_le (by have := World.block_lt_of_cell? _ _ hw138_0; first | rwa [add_block] at this | exact this) GW141.out))) _).trans (hHeld.2.2.2.2.1)))))))))))), ((cell_far (p := ⟨gb141, _, none⟩) (by first | exact Nat.ne_of_lt (Nat.lt_of_lt_of_le (by have := World.block_lt_of_cell? _ _ hw138_1; first | rwa [add_block] at this | exact this) GW141.out) | (rw [add_block]; exact Nat.ne_of_lt (Nat.lt_of_lt_of_le (by have := World.block_lt_of_cell? _ _ hw138_1; first | rwa [add_block] at this | exact this) GW141.out)) | (show (Addr.add _ _).block ≠ _; rw [add_block]; exact Nat.ne_of_lt (Nat.lt_of_lt_of_le (by have := World.block_lt_of_cell? _ _ hw138_1; first | rwa [add_block] at this | exact this) GW141.out)) | (dsimp only; exact Nat.ne_of_lt (Nat.lt_of_lt_of_le (by have := World.block_lt_of_cell? _ _ hw138_1; first | rwa [add_block] at this | exact this) GW141.out))) _).trans (((cell_far (p := ⟨gb141, _, none⟩) (by first | exact Nat.ne_of_lt (Nat.lt_of_lt_of_le (by have := World.block_lt_of_cell? _ _ hw138_1; first | rwa [add_block] at this | exact this) GW141.out) | (rw [add_block]; exact Nat.ne_of_lt (Nat.lt_of_lt_of_le (by have := World.block_lt_of_cell? _ _ hw138_1; first | rwa [add_block] at this | exact this) GW141.out)) | (show (Addr.add _ _).block ≠ _; rw [add_block]; exact Nat.ne_of_lt (Nat.lt_of_lt_of_le (by have := World.block_lt_of_cell? _ _ hw138_1; first | rwa [add_block] at this | exact this) GW141.out)) | (dsimp only; exact Nat.ne_of_lt (Nat.lt_of_lt_of_le (by have := World.block_lt_of_cell? _ _ hw138_1; first | rwa [add_block] at this | exact this) GW141.out))) _).trans (((cell_far (p := ⟨gb141, _, none⟩) (by first | exact Nat.ne_of_lt (Nat.lt_of_lt_of_le (by have := World.block_lt_of_cell? _ _ hw138_1; first | rwa [add_block] at this | exact this) GW141.out) | (rw [add_block]; exact Nat.ne_of_lt (Nat.lt_of_lt_of_le (by have := World.block_lt_of_cell? _ _ hw138_1; first | rwa [add_block] at this | exact this) GW141.out)) | (show (Addr.add _ _).block ≠ _; rw [add_block]; exact Nat.ne_of_lt (Nat.lt_of_lt_of_le (by have := World.block_lt_of_cell? _ _ hw138_1; first | rwa [add_block] at this | exact this) GW141.out)) | (dsimp only; exact Nat.ne_of_lt (Nat.lt_of_lt_of_le (by have := World.block_lt_of_cell? _ _ hw138_1; first | rwa [add_block] at this | exact this) GW141.out))) _).trans (((cell_far (p := ⟨gb141, _, none⟩) (by first | exact Nat.ne_of_lt (Nat.lt_of_lt_of_le (by have := World.block_lt_of_cell? _ _ hw138_1; first | rwa [add_block] at this | exact this) GW141.out) | (rw [add_block]; exact Nat.ne_of_lt (Nat.lt_of_lt_of_le (by have := World.block_lt_of_cell? _ _ hw138_1; first | rwa [add_block] at this | exact this) GW141.out)) | (show (Addr.add _ _).block ≠ _; rw [add_block]; exact Nat.ne_of_lt (Nat.lt_of_lt_of_le (by have := World.block_lt_of_cell? _ _ hw138_1; first | rwa [add_block] at this | exact this) GW141.out)) | (dsimp only; exact Nat.ne_of_lt (Nat.lt_of_lt_of_le (by have := World.block_lt_of_cell? _ _ hw138_1; first | rwa [add_block] at this | exact this) GW141.out))) _).trans (((cell_far (p := ⟨gb141, _, none⟩) (by first | exact Nat.ne_of_lt (Nat.lt_of_lt_of_le (by have := World.block_lt_of_cell? _ _ hw138_1; first | rwa [add_block] at this | exact this) GW141.out) | (rw [add_block]; exact Nat.ne_of_lt (Nat.lt_of_lt_of_le (by have := World.block_lt_of_cell? _ _ hw138_1; first | rwa [add_block] at this | exact this) GW141.out)) | (show (Addr.add _ _).block ≠ _; rw [add_block]; exact Nat.ne_of_lt (Nat.lt_of_lt_of_le (by have := World.block_lt_of_cell? _ _ hw138_1; first | rwa [add_block] at this | exact this) GW141.out)) | (dsimp only; exact Nat.ne_of_lt (Nat.lt_of_lt_of_le (by have := World.block_lt_of_cell? _ _ hw138_1; first | rwa [add_block] at this | exact this) GW141.out))) _).trans (((cell_far (p := ⟨gb141, _, none⟩) (by first | exact Nat.ne_of_lt (Nat.lt_of_lt_of_le (by have := World.block_lt_of_cell? _ _ hw138_1; first | rwa [add_block] at this | exact this) GW141.out) | (rw [add_block]; exact Nat.ne_of_lt (Nat.lt_of_lt_of_le (by have := World.block_lt_of_cell? _ _ hw138_1; first | rwa [add_block] at this | exact this) GW141.out)) | (show (Addr.add _ _).block ≠ _; rw [add_block]; exact Nat.ne_of_lt (Nat.lt_of_lt_of_le (by have := World.block_lt_of_cell? _ _ hw138_1; first | rwa [add_block] at this | exact this) GW141.out)) | (dsimp only; exact Nat.ne_of_lt (Nat.lt_of_lt_of_le (by have := World.block_lt_of_cell? _ _ hw138_1; first | rwa [add_block] at this | exact this) GW141.out))) _).trans (hHeld.2.2.2.2.2.1)))))))))))), ((cell_far (p := ⟨gb141, _, none⟩) (by first | exact Nat.ne_of_lt (Nat.lt_of_lt_of_le (by have := World.block_lt_of_cell? _ _ hw138_2; first | rwa [add_block] at this | exact this) GW141.out) | (rw [add_block]; exact Nat.ne_of_lt (Nat.lt_of_lt_of_le (by have := World.block_lt_of_cell? _ _ hw138_2; first | rwa [add_block] at this | exact this) GW141.out)) | (show (Addr.add _ _).block ≠ _; rw [add_block]; exact Nat.ne_of_lt (Nat.lt_of_lt_of_le (by have := World.block_lt_of_cell? _ _ hw138_2; first | rwa [add_block] at this | exact this) GW141.out)) | (dsimp only; exact Nat.ne_of_lt (Nat.lt_of_lt_of_le (by have := World.block_lt_of_cell? _ _ hw138_2; first | rwa [add_block] at this | exact this) GW141.out))) _).trans (((cell_far (p := ⟨gb141, _, none⟩) (by first | exact Nat.ne_of_lt (Nat.lt_of_lt_of_le (by have := World.block_lt_of_cell? _ _ hw138_2; first | rwa [add_block] at this | exact this) GW141.out) | (rw [add_block]; exact Nat.ne_of_lt (Nat.lt_of_lt_of_le (by have := World.block_lt_of_cell? _ _ hw138_2; first | rwa [add_block] at this | exact this) GW141.out)) | (show (Addr.add _ _).block ≠ _; rw [add_block]; exact Nat.ne_of_lt (Nat.lt_of_lt_of_le (by have := World.block_lt_of_cell? _ _ hw138_2; first | rwa [add_block] at this | exact this) GW141.out)) | (dsimp only; exact Nat.ne_of_lt (Nat.lt_of_lt_of_le (by have := World.block_lt_of_cell? _ _ hw138_2; first | rwa [add_block] at this | exact this) GW141.out))) _).trans (((cell_far (p := ⟨gb141, _, none⟩) (by first | exact Nat.ne_of_lt (Nat.lt_of_lt_of_le (by have := World.block_lt_of_cell? _ _ hw138_2; first | rwa [add_block] at this | exact this) GW141.out) | (rw [add_block]; exact Nat.ne_of_lt (Nat.lt_of_lt_of_le (by have := World.block_lt_of_cell? _ _ hw138_2; first | rwa [add_block] at this | exact this) GW141.out)) | (show (Addr.add _ _).block ≠ _; rw [add_block]; exact Nat.ne_of_lt (Nat.lt_of_lt_of_le (by have := World.block_lt_of_cell? _ _ hw138_2; first | rwa [add_block] at this | exact this) GW141.out)) | (dsimp only; exact Nat.ne_of_lt (Nat.lt_of_lt_of_le (by have := World.block_lt_of_cell? _ _ hw138_2; first | rwa [add_block] at this | exact this) GW141.out))) _).trans (((cell_far (p := ⟨gb141, _, none⟩) (by first | exact Nat.ne_of_lt (Nat.lt_of_lt_of_le (by have := World.block_lt_of_cell? _ _ hw138_2; first | rwa [add_block] at this | exact this) GW141.out) | (rw [add_block]; exact Nat.ne_of_lt (Nat.lt_of_lt_of_le (by have := World.block_lt_of_cell? _ _ hw138_2; first | rwa [add_block] at this | exact this) GW141.out)) | (show (Addr.add _ _).block ≠ _; rw [add_block]; exact Nat.ne_of_lt (Nat.lt_of_lt_of_le (by have := World.block_lt_of_cell? _ _ hw138_2; first | rwa [add_block] at this | exact this) GW141.out)) | (dsimp only; exact Nat.ne_of_lt (Nat.lt_of_lt_of_le (by have := World.block_lt_of_cell? _ _ hw138_2; first | rwa [add_block] at this | exact this) GW141.out))) _).trans (((cell_far (p := ⟨gb141, _, none⟩) (by first | exact Nat.ne_of_lt (Nat.lt_of_lt_of_le (by have := World.block_lt_of_cell? _ _ hw138_2; first | rwa [add_block] at this | exact this) GW141.out) | (rw [add_block]; exact Nat.ne_of_lt (Nat.lt_of_lt_of_le (by have := World.block_lt_of_cell? _ _ hw138_2; first | rwa [add_block] at this | exact this) GW141.out)) | (show (Addr.add _ _).block ≠ _; rw [add_block]; exact Nat.ne_of_lt (Nat.lt_of_lt_of_le (by have := World.block_lt_of_cell? _ _ hw138_2; first | rwa [add_block] at this | exact this) GW141.out)) | (dsimp only; exact Nat.ne_of_lt (Nat.lt_of_lt_of_le (by have := World.block_lt_of_cell? _ _ hw138_2; first | rwa [add_block] at this | exact this) GW141.out))) _).trans (((cell_far (p := ⟨gb141, _, none⟩) (by first | exact Nat.ne_of_lt (Nat.lt_of_lt_of_le (by have := World.block_lt_of_cell? _ _ hw138_2; first | rwa [add_block] at this | exact this) GW141.out) | (rw [add_block]; exact Nat.ne_of_lt (Nat.lt_of_lt_of_le (by have := World.block_lt_of_cell? _ _ hw138_2; first | rwa [add_block] at this | exact this) GW141.out)) | (show (Addr.add _ _).block ≠ _; rw [add_block]; exact Nat.ne_of_lt (Nat.lt_of_lt_of_le (by have := World.block_lt_of_cell? _ _ hw138_2; first | rwa [add_block] at this | exact this) GW141.out)) | (dsimp only; exact Nat.ne_of_lt (Nat.lt_of_lt_of_le (by have := World.block_lt_of_cell? _ _ hw138_2; first | rwa [add_block] at this | exact this) GW141.out))) _).trans (hHeld.2.2.2.2.2.2.1)))))))))))), ((cell_far (p := ⟨gb141, _, none⟩) (by first | exact Nat.ne_of_lt (Nat.lt_of_lt_of_le (by have := World.block_lt_of_cell? _ _ hw138_3; first | rwa [add_block] at this | exact this) GW141.out) | (rw [add_block]; exact Nat.ne_of_lt (Nat.lt_of_lt_of_le (by have := World.block_lt_of_cell? _ _ hw138_3; first | rwa [add_block] at this | exact this) GW141.out)) | (show (Addr.add _ _).block ≠ _; rw [add_block]; exact Nat.ne_of_lt (Nat.lt_of_lt_of_le (by have := World.block_lt_of_cell? _ _ hw138_3; first | rwa [add_block] at this | exact this) GW141.out)) | (dsimp only; exact Nat.ne_of_lt (Nat.lt_of_lt_of_le (by have := World.block_lt_of_cell? _ _ hw138_3; first | rwa [add_block] at this | exact this) GW141.out))) _).trans (((cell_far (p := ⟨gb141, _, none⟩) (by first | exact Nat.ne_of_lt (Nat.lt_of_lt_of_le (by have := World.block_lt_of_cell? _ _ hw138_3; first | rwa [add_block] at this | exact this) GW141.out) | (rw [add_block]; exact Nat.ne_of_lt (Nat.lt_of_lt_of_le (by have := World.block_lt_of_cell? _ _ hw138_3; first | rwa [add_block] at this | exact this) GW141.out)) | (show (Addr.add _ _).block ≠ _; rw [add_block]; exact Nat.ne_of_lt (Nat.lt_of_lt_of_le (by have := World.block_lt_of_cell? _ _ hw138_3; first | rwa [add_block] at this | exact this) GW141.out)) | (dsimp only; exact Nat.ne_of_lt (Nat.lt_of_lt_of_le (by have := World.block_lt_of_cell? _ _ hw138_3; first | rwa [add_block] at this | exact this) GW141.out))) _).trans (((cell_far (p := ⟨gb141, _, none⟩) (by first | exact Nat.ne_of_lt (Nat.lt_of_lt_of_le (by have := World.block_lt_of_cell? _ _ hw138_3; first | rwa [add_block] at this | exact this) GW141.out) | (rw [add_block]; exact Nat.ne_of_lt (Nat.lt_of_lt_of_le (by have := World.block_lt_of_cell? _ _ hw138_3; first | rwa [add_block] at this | exact this) GW141.out)) | (show (Addr.add _ _).block ≠ _; rw [add_block]; exact Nat.ne_of_lt (Nat.lt_of_lt_of_le (by have := World.block_lt_of_cell? _ _ hw138_3; first | rwa [add_block] at this | exact this) GW141.out)) | (dsimp only; exact Nat.ne_of_lt (Nat.lt_of_lt_of_le (by have := World.block_lt_of_cell? _ _ hw138_3; first | rwa [add_block] at this | exact this) GW141.out))) _).trans (((cell_far (p := ⟨gb141, _, none⟩) (by first | exact Nat.ne_of_lt (Nat.lt_of_lt_of_le (by have := World.block_lt_of_cell? _ _ hw138_3; first | rwa [add_block] at this | exact this) GW141.out) | (rw [add_block]; exact Nat.ne_of_lt (Nat.lt_of_lt_of_le (by have := World.block_lt_of_cell? _ _ hw138_3; first | rwa [add_block] at this | exact this) GW141.out)) | (show (Addr.add _ _).block ≠ _; rw [add_block]; exact Nat.ne_of_lt (Nat.lt_of_lt_of_le (by have := World.block_lt_of_cell? _ _ hw138_3; first | rwa [add_block] at this | exact this) GW141.out)) | (dsimp only; exact Nat.ne_of_lt (Nat.lt_of_lt_of_le (by have := World.block_lt_of_cell? _ _ hw138_3; first | rwa [add_block] at this | exact this) GW141.out))) _).trans (((cell_far (p := ⟨gb141, _, none⟩) (by first | exact Nat.ne_of_lt (Nat.lt_of_lt_of_le (by have := World.block_lt_of_cell? _ _ hw138_3; first | rwa [add_block] at this | exact this) GW141.out) | (rw [add_block]; exact Nat.ne_of_lt (Nat.lt_of_lt_of_le (by have := World.block_lt_of_cell? _ _ hw138_3; first | rwa [add_block] at this | exact this) GW141.out)) | (show (Addr.add _ _).block ≠ _; rw [add_block]; exact Nat.ne_of_lt (Nat.lt_of_lt_of_le (by have := World.block_lt_of_cell? _ _ hw138_3; first | rwa [add_block] at this | exact this) GW141.out)) | (dsimp only; exact Nat.ne_of_lt (Nat.lt_of_lt_of_le (by have := World.block_lt_of_cell? _ _ hw138_3; first | rwa [add_block] at this | exact this) GW141.out))) _).trans (((cell_far (p := ⟨gb141, _, none⟩) (by first | exact Nat.ne_of_lt (Nat.lt_of_lt_of_le (by have := World.block_lt_of_cell? _ _ hw138_3; first | rwa [add_block] at this | exact this) GW141.out) | (rw [add_block]; exact Nat.ne_of_lt (Nat.lt_of_lt_of_le (by have := World.block_lt_of_cell? _ _ hw138_3; first | rwa [add_block] at this | exact this) GW141.out)) | (show (Addr.add _ _).block ≠ _; rw [add_block]; exact Nat.ne_of_lt (Nat.lt_of_lt_of_le (by have := World.block_lt_of_cell? _ _ hw138_3; first | rwa [add_block] at this | exact this) GW141.out)) | (dsimp only; exact Nat.ne_of_lt (Nat.lt_of_lt_of_le (by have := World.block_lt_of_cell? _ _ hw138_3; first | rwa [add_block] at this | exact this) GW141.out))) _).trans (hHeld.2.2.2.2.2.2.2.1)))))))))))), ((cell_far (p := ⟨gb141, _, none⟩) (by first | exact Nat.ne_of_lt (Nat.lt_of_lt_of_le (by have := World.block_lt_of_cell? _ _ hw139_0; first | rwa [add_block] at this | exact this) GW141.out) | (rw [add_block]; exact Nat.ne_of_lt (Nat.lt_of_lt_of_le (by have := World.block_lt_of_cell? _ _ hw139_0; first | rwa [add_block] at this | exact this) GW141.out)) | (show (Addr.add _ _).block ≠ _; rw [add_block]; exact Nat.ne_of_lt (Nat.lt_of_lt_of_le (by have := World.block_lt_of_cell? _ _ hw139_0; first | rwa [add_block] at this | exact this) GW141.out)) | (dsimp only; exact Nat.ne_of_lt (Nat.lt_of_lt_of_le (by have := World.block_lt_of_cell? _ _ hw139_0; first | rwa [add_block] at this | exact this) GW141.out))) _).trans (((cell_far (p := ⟨gb141, _, none⟩) (by first | exact Nat.ne_of_lt (Nat.lt_of_lt_of_le (by have := World.block_lt_of_cell? _ _ hw139_0; first | rwa [add_block] at this | exact this) GW141.out) | (rw [add_block]; exact Nat.ne_of_lt (Nat.lt_of_lt_of_le (by have := World.block_lt_of_cell? _ _ hw139_0; first | rwa [add_block] at this | exact this) GW141.out)) | (show (Addr.add _ _).block ≠ _; rw [add_block]; exact Nat.ne_of_lt (Nat.lt_of_lt_of_le (by have := World.block_lt_of_cell? _ _ hw139_0; first | rwa [add_block] at this | exact this) GW141.out)) | (dsimp only; exact Nat.ne_of_lt (Nat.lt_of_lt_of_le (by have := World.block_lt_of_cell? _ _ hw139_0; first | rwa [add_block] at this | exact this) GW141.out))) _).trans (((cell_far (p := ⟨gb141, _, none⟩) (by first | exact Nat.ne_of_lt (Nat.lt_of_lt_of_le (by have := World.block_lt_of_cell? _ _ hw139_0; first | rwa [add_block] at this | exact this) GW141.out) | (rw [add_block]; exact Nat.ne_of_lt (Nat.lt_of_lt_of_le (by have := World.block_lt_of_cell? _ _ hw139_0; first | rwa [add_block] at this | exact this) GW141.out)) | (show (Addr.add _ _).block ≠ _; rw [add_block]; exact Nat.ne_of_lt (Nat.lt_of_lt_of_le (by have := World.block_lt_of_cell? _ _ hw139_0; first | rwa [add_block] at this | exact this) GW141.out)) | (dsimp only; exact Nat.ne_of_lt (Nat.lt_of_lt_of_le (by have := World.block_lt_of_cell? _ _ hw139_0; first | rwa [add_block] at this | exact this) GW141.out))) _).trans (((cell_far (p := ⟨gb141, _, none⟩) (by first | exact Nat.ne_of_lt (Nat.lt_of_lt_of_le (by have := World.block_lt_of_cell? _ _ hw139_0; first | rwa [add_block] at this | exact this) GW141.out) | (rw [add_block]; exact Nat.ne_of_lt (Nat.lt_of_lt_of_le (by have := World.block_lt_of_cell? _ _ hw139_0; first | rwa [add_block] at this | exact this) GW141.out)) | (show (Addr.add _ _).block ≠ _; rw [add_block]; exact Nat.ne_of_lt (Nat.lt_of_lt_of_le (by have := World.block_lt_of_cell? _ _ hw139_0; first | rwa [add_block] at this | exact this) GW141.out)) | (dsimp only; exact Nat.ne_of_lt (Nat.lt_of_lt_of_le (by have := World.block_lt_of_cell? _ _ hw139_0; first | rwa [add_block] at this | exact this) GW141.out))) _).trans (((cell_far (p := ⟨gb141, _, none⟩) (by first | exact Nat.ne_of_lt (Nat.lt_of_lt_of_le (by have := World.block_lt_of_cell? _ _ hw139_0; first | rwa [add_block] at this | exact this) GW141.out) | (rw [add_block]; exact Nat.ne_of_lt (Nat.lt_of_lt_of_le (by have := World.block_lt_of_cell? _ _ hw139_0; first | rwa [add_block] at this | exact this) GW141.out)) | (show (Addr.add _ _).block ≠ _; rw [add_block]; exact Nat.ne_of_lt (Nat.lt_of_lt_of_le (by have := World.block_lt_of_cell? _ _ hw139_0; first | rwa [add_block] at this | exact this) GW141.out)) | (dsimp only; exact Nat.ne_of_lt (Nat.lt_of_lt_of_le (by have := World.block_lt_of_cell? _ _ hw139_0; first | rwa [add_block] at this | exact this) GW141.out))) _).trans (((cell_far (p := ⟨gb141, _, none⟩) (by first | exact Nat.ne_of_lt (Nat.lt_of_lt_of_le (by have := World.block_lt_of_cell? _ _ hw139_0; first | rwa [add_block] at this | exact this) GW141.out) | (rw [add_block]; exact Nat.ne_of_lt (Nat.lt_of_lt_of_le (by have := World.block_lt_of_cell? _ _ hw139_0; first | rwa [add_block] at this | exact this) GW141.out)) | (show (Addr.add _ _).block ≠ _; rw [add_block]; exact Nat.ne_of_lt (Nat.lt_of_lt_of_le (by have := World.block_lt_of_cell? _ _ hw139_0; first | rwa [add_block] at this | exact this) GW141.out)) | (dsimp only; exact Nat.ne_of_lt (Nat.lt_of_lt_of_le (by have := World.block_lt_of_cell? _ _ hw139_0; first | rwa [add_block] at this | exact this) GW141.out))) _).trans (hHeld.2.2.2.2.2.2.2.2.1)))))))))))), ((cell_far (p := ⟨gb141, _, none⟩) (by first | exact Nat.ne_of_lt (Nat.lt_of_lt_of_le (by have := World.block_lt_of_cell? _ _ hw139_1; first | rwa [add_block] at this | exact this) GW141.out) | (rw [add_block]; exact Nat.ne_of_lt (Nat.lt_of_lt_of_le (by have := World.block_lt_of_cell? _ _ hw139_1; first | rwa [add_block] at this | exact this) GW141.out)) | (show (Addr.add _ _).block ≠ _; rw [add_block]; exact Nat.ne_of_lt (Nat.lt_of_lt_of_le (by have := World.block_lt_of_cell? _ _ hw139_1; first | rwa [add_block] at this | exact this) GW141.out)) | (dsimp only; exact Nat.ne_of_lt (Nat.lt_of_lt_of_le (by have := World.block_lt_of_cell? _ _ hw139_1; first | rwa [add_block] at this | exact this) GW141.out))) _).trans (((cell_far (p := ⟨gb141, _, none⟩) (by first | exact Nat.ne_of_lt (Nat.lt_of_lt_of_le (by have := World.block_lt_of_cell? _ _ hw139_1; first | rwa [add_block] at this | exact this) GW141.out) | (rw [add_block]; exact Nat.ne_of_lt (Nat.lt_of_lt_of_le (by have := World.block_lt_of_cell? _ _ hw139_1; first | rwa [add_block] at this | exact this) GW141.out)) | (show (Addr.add _ _).block ≠ _; rw [add_block]; exact Nat.ne_of_lt (Nat.lt_of_lt_of_le (by have := World.block_lt_of_cell? _ _ hw139_1; first | rwa [add_block] at this | exact this) GW141.out)) | (dsimp only; exact Nat.ne_of_lt (Nat.lt_of_lt_of_le (by have := World.block_lt_of_cell? _ _ hw139_1; first | rwa [add_block] at this | exact this) GW141.out))) _).trans (((cell_far (p := ⟨gb141, _, none⟩) (by first | exact Nat.ne_of_lt (Nat.lt_of_lt_of_le (by have := World.block_lt_of_cell? _ _ hw139_1; first | rwa [add_block] at this | exact this) GW141.out) | (rw [add_block]; exact Nat.ne_of_lt (Nat.lt_of_lt_of_le (by have := World.block_lt_of_cell? _ _ hw139_1; first | rwa [add_block] at this | exact this) GW141.out)) | (show (Addr.add _ _).block ≠ _; rw [add_block]; exact Nat.ne_of_lt (Nat.lt_of_lt_of_le (by have := World.block_lt_of_cell? _ _ hw139_1; first | rwa [add_block] at this | exact this) GW141.out)) | (dsimp only; exact Nat.ne_of_lt (Nat.lt_of_lt_of_le (by have := World.block_lt_of_cell? _ _ hw139_1; first | rwa [add_block] at this | exact this) GW141.out))) _).trans (((cell_far (p := ⟨gb141, _, none⟩) (by first | exact Nat.ne_of_lt (Nat.lt_of_lt_of_le (by have := World.block_lt_of_cell? _ _ hw139_1; first | rwa [add_block] at this | exact this) GW141.out) | (rw [add_block]; exact Nat.ne_of_lt (Nat.lt_of_lt_of_le (by have := World.block_lt_of_cell? _ _ hw139_1; first | rwa [add_block] at this | exact this) GW141.out)) | (show (Addr.add _ _).block ≠ _; rw [add_block]; exact Nat.ne_of_lt (Nat.lt_of_lt_of_le (by have := World.block_lt_of_cell? _ _ hw139_1; first | rwa [add_block] at this | exact this) GW141.out)) | (dsimp only; exact Nat.ne_of_lt (Nat.lt_of_lt_of_le (by have := World.block_lt_of_cell? _ _ hw139_1; first | rwa [add_block] at this | exact this) GW141.out))) _).trans (((cell_far (p := ⟨gb141, _, none⟩) (by first | exact Nat.ne_of_lt (Nat.lt_of_lt_of_le (by have := World.block_lt_of_cell? _ _ hw139_1; first | rwa [add_block] at this | exact this) GW141.out) | (rw [add_block]; exact Nat.ne_of_lt (Nat.lt_of_lt_of_le (by have := World.block_lt_of_cell? _ _ hw139_1; first | rwa [add_block] at this | exact this) GW141.out)) | (show (Addr.add _ _).block ≠ _; rw [add_block]; exact Nat.ne_of_lt (Nat.lt_of_lt_of_le (by have := World.block_lt_of_cell? _ _ hw139_1; first | rwa [add_block] at this | exact this) GW141.out)) | (dsimp only; exact Nat.ne_of_lt (Nat.lt_of_lt_of_le (by have := World.block_lt_of_cell? _ _ hw139_1; first | rwa [add_block] at this | exact this) GW141.out))) _).trans (((cell_far (p := ⟨gb141, _, none⟩) (by first | exact Nat.ne_of_lt (Nat.lt_of_lt_of_le (by have := World.block_lt_of_cell? _ _ hw139_1; first | rwa [add_block] at this | exact this) GW141.out) | (rw [add_block]; exact Nat.ne_of_lt (Nat.lt_of_lt_of_le (by have := World.block_lt_of_cell? _ _ hw139_1; first | rwa [add_block] at this | exact this) GW141.out)) | (show (Addr.add _ _).block ≠ _; rw [add_block]; exact Nat.ne_of_lt (Nat.lt_of_lt_of_le (by have := World.block_lt_of_cell? _ _ hw139_1; first | rwa [add_block] at this | exact this) GW141.out)) | (dsimp only; exact Nat.ne_of_lt (Nat.lt_of_lt_of_le (by have := World.block_lt_of_cell? _ _ hw139_1; first | rwa [add_block] at this | exact this) GW141.out))) _).trans (hHeld.2.2.2.2.2.2.2.2.2.1)))))))))))), ((cell_far (p := ⟨gb141, _, none⟩) (by first | exact Nat.ne_of_lt (Nat.lt_of_lt_of_le (by have := World.block_lt_of_cell? _ _ hw139_2; first | rwa [add_block] at this | exact this) GW141.out) | (rw [add_block]; exact Nat.ne_of_lt (Nat.lt_of_lt_of_le (by have := World.block_lt_of_cell? _ _ hw139_2; first | rwa [add_block] at this | exact this) GW141.out)) | (show (Addr.add _ _).block ≠ _; rw [add_block]; exact Nat.ne_of_lt (Nat.lt_of_lt_of_le (by have := World.block_lt_of_cell? _ _ hw139_2; first | rwa [add_block] at this | exact this) GW141.out)) | (dsimp only; exact Nat.ne_of_lt (Nat.lt_of_lt_of_le (by have := World.block_lt_of_cell? _ _ hw139_2; first | rwa [add_block] at this | exact this) GW141.out))) _).trans (((cell_far (p := ⟨gb141, _, none⟩) (by first | exact Nat.ne_of_lt (Nat.lt_of_lt_of_le (by have := World.block_lt_of_cell? _ _ hw139_2; first | rwa [add_block] at this | exact this) GW141.out) | (rw [add_block]; exact Nat.ne_of_lt (Nat.lt_of_lt_of_le (by have := World.block_lt_of_cell? _ _ hw139_2; first | rwa [add_block] at this | exact this) GW141.out)) | (show (Addr.add _ _).block ≠ _; rw [add_block]; exact Nat.ne_of_lt (Nat.lt_of_lt_of_le (by have := World.block_lt_of_cell? _ _ hw139_2; first | rwa [add_block] at this | exact this) GW141.out)) | (dsimp only; exact Nat.ne_of_lt (Nat.lt_of_lt_of_le (by have := World.block_lt_of_cell? _ _ hw139_2; first | rwa [add_block] at this | exact this) GW141.out))) _).trans (((cell_far (p := ⟨gb141, _, none⟩) (by first | exact Nat.ne_of_lt (Nat.lt_of_lt_of_le (by have := World.block_lt_of_cell? _ _ hw139_2; first | rwa [add_block] at this | exact this) GW141.out) | (rw [add_block]; exact Nat.ne_of_lt (Nat.lt_of_lt_of_le (by have := World.block_lt_of_cell? _ _ hw139_2; first | rwa [add_block] at this | exact this) GW141.out)) | (show (Addr.add _ _).block ≠ _; rw [add_block]; exact Nat.ne_of_lt (Nat.lt_of_lt_of_le (by have := World.block_lt_of_cell? _ _ hw139_2; first | rwa [add_block] at this | exact this) GW141.out)) | (dsimp only; exact Nat.ne_of_lt (Nat.lt_of_lt_of_le (by have := World.block_lt_of_cell? _ _ hw139_2; first | rwa [add_block] at this | exact this) GW141.out))) _).trans (((cell_far (p := ⟨gb141, _, none⟩) (by first | exact Nat.ne_of_lt (Nat.lt_of_lt_of_le (by have := World.block_lt_of_cell? _ _ hw139_2; first | rwa [add_block] at this | exact this) GW141.out) | (rw [add_block]; exact Nat.ne_of_lt (Nat.lt_of_lt_of_le (by have := World.block_lt_of_cell? _ _ hw139_2; first | rwa [add_block] at this | exact this) GW141.out)) | (show (Addr.add _ _).block ≠ _; rw [add_block]; exact Nat.ne_of_lt (Nat.lt_of_lt_of_le (by have := World.block_lt_of_cell? _ _ hw139_2; first | rwa [add_block] at this | exact this) GW141.out)) | (dsimp only; exact Nat.ne_of_lt (Nat.lt_of_lt_of_le (by have := World.block_lt_of_cell? _ _ hw139_2; first | rwa [add_block] at this | exact this) GW141.out))) _).trans (((cell_far (p := ⟨gb141, _, none⟩) (by first | exact Nat.ne_of_lt (Nat.lt_of_lt_of_le (by have := World.block_lt_of_cell? _ _ hw139_2; first | rwa [add_block] at this | exact this) GW141.out) | (rw [add_block]; exact Nat.ne_of_lt (Nat.lt_of_lt_of_le (by have := World.block_lt_of_cell? _ _ hw139_2; first | rwa [add_block] at this | exact this) GW141.out)) | (show (Addr.add _ _).block ≠ _; rw [add_block]; exact Nat.ne_of_lt (Nat.lt_of_lt_of_le (by have := World.block_lt_of_cell? _ _ hw139_2; first | rwa [add_block] at this | exact this) GW141.out)) | (dsimp only; exact Nat.ne_of_lt (Nat.lt_of_lt_of_le (by have := World.block_lt_of_cell? _ _ hw139_2; first | rwa [add_block] at this | exact this) GW141.out))) _).trans (((cell_far (p := ⟨gb141, _, none⟩) (by first | exact Nat.ne_of_lt (Nat.lt_of_lt_of_le (by have := World.block_lt_of_cell? _ _ hw139_2; first | rwa [add_block] at this | exact this) GW141.out) | (rw [add_block]; exact Nat.ne_of_lt (Nat.lt_of_lt_of_le (by have := World.block_lt_of_cell? _ _ hw139_2; first | rwa [add_block] at this | exact this) GW141.out)) | (show (Addr.add _ _).block ≠ _; rw [add_block]; exact Nat.ne_of_lt (Nat.lt_of_lt_of_le (by have := World.block_lt_of_cell? _ _ hw139_2; first | rwa [add_block] at this | exact this) GW141.out)) | (dsimp only; exact Nat.ne_of_lt (Nat.lt_of_lt_of_le (by have := World.block_lt_of_cell? _ _ hw139_2; first | rwa [add_block] at this | exact this) GW141.out))) _).trans (hHeld.2.2.2.2.2.2.2.2.2.2.1)))))))))))), ((cell_far (p := ⟨gb141, _, none⟩) (by first | exact Nat.ne_of_lt (Nat.lt_of_lt_of_le (by have := World.block_lt_of_cell? _ _ hw139_3; first | rwa [add_block] at this | exact this) GW141.out) | (rw [add_block]; exact Nat.ne_of_lt (Nat.lt_of_lt_of_le (by have := World.block_lt_of_cell? _ _ hw139_3; first | rwa [add_block] at this | exact this) GW141.out)) | (show (Addr.add _ _).block ≠ _; rw [add_block]; exact Nat.ne_of_lt (Nat.lt_of_lt_of_le (by have := World.block_lt_of_cell? _ _ hw139_3; first | rwa [add_block] at this | exact this) GW141.out)) | (dsimp only; exact Nat.ne_of_lt (Nat.lt_of_lt_of_le (by have := World.block_lt_of_cell? _ _ hw139_3; first | rwa [add_block] at this | exact this) GW141.out))) _).trans (((cell_far (p := ⟨gb141, _, none⟩) (by first | exact Nat.ne_of_lt (Nat.lt_of_lt_of_le (by have := World.block_lt_of_cell? _ _ hw139_3; first | rwa [add_block] at this | exact this) GW141.out) | (rw [add_block]; exact Nat.ne_of_lt (Nat.lt_of_lt_of_le (by have := World.block_lt_of_cell? _ _ hw139_3; first | rwa [add_block] at this | exact this) GW141.out)) | (show (Addr.add _ _).block ≠ _; rw [add_block]; exact Nat.ne_of_lt (Nat.lt_of_lt_of_le (by have := World.block_lt_of_cell? _ _ hw139_3; first | rwa [add_block] at this | exact this) GW141.out)) | (dsimp only; exact Nat.ne_of_lt (Nat.lt_of_lt_of_le (by have := World.block_lt_of_cell? _ _ hw139_3; first | rwa [add_block] at this | exact this) GW141.out))) _).trans (((cell_far (p := ⟨gb141, _, none⟩) (by first | exact Nat.ne_of_lt (Nat.lt_of_lt_of_le (by have := World.block_lt_of_cell? _ _ hw139_3; first | rwa [add_block] at this | exact this) GW141.out) | (rw [add_block]; exact Nat.ne_of_lt (Nat.lt_of_lt_of_le (by have := World.block_lt_of_cell? _ _ hw139_3; first | rwa [add_block] at this | exact this) GW141.out)) | (show (Addr.add _ _).block ≠ _; rw [add_block]; exact Nat.ne_of_lt (Nat.lt_of_lt_of_le (by have := World.block_lt_of_cell? _ _ hw139_3; first | rwa [add_block] at this | exact this) GW141.out)) | (dsimp only; exact Nat.ne_of_lt (Nat.lt_of_lt_of_le (by have := World.block_lt_of_cell? _ _ hw139_3; first | rwa [add_block] at this | exact this) GW141.out))) _).trans (((cell_far (p := ⟨gb141, _, none⟩) (by first | exact Nat.ne_of_lt (Nat.lt_of_lt_of_le (by have := World.block_lt_of_cell? _ _ hw139_3; first | rwa [add_block] at this | exact this) GW141.out) | (rw [add_block]; exact Nat.ne_of_lt (Nat.lt_of_lt_of_le (by have := World.block_lt_of_cell? _ _ hw139_3; first | rwa [add_block] at this | exact this) GW141.out)) | (show (Addr.add _ _).block ≠ _; rw [add_block]; exact Nat.ne_of_lt (Nat.lt_of_lt_of_le (by have := World.block_lt_of_cell? _ _ hw139_3; first | rwa [add_block] at this | exact this) GW141.out)) | (dsimp only; exact Nat.ne_of_lt (Nat.lt_of_lt_of_le (by have := World.block_lt_of_cell? _ _ hw139_3; first | rwa [add_block] at this | exact this) GW141.out))) _).trans (((cell_far (p := ⟨gb141, _, none⟩) (by first | exact Nat.ne_of_lt (Nat.lt_of_lt_of_le (by have := World.block_lt_of_cell? _ _ hw139_3; first | rwa [add_block] at this | exact this) GW141.out) | (rw [add_block]; exact Nat.ne_of_lt (Nat.lt_of_lt_of_le (by have := World.block_lt_of_cell? _ _ hw139_3; first | rwa [add_block] at this | exact this) GW141.out)) | (show (Addr.add _ _).block ≠ _; rw [add_block]; exact Nat.ne_of_lt (Nat.lt_of_lt_of_le (by have := World.block_lt_of_cell? _ _ hw139_3; first | rwa [add_block] at this | exact this) GW141.out)) | (dsimp only; exact Nat.ne_of_lt (Nat.lt_of_lt_of_le (by have := World.block_lt_of_cell? _ _ hw139_3; first | rwa [add_block] at this | exact this) GW141.out))) _).trans (((cell_far (p := ⟨gb141, _, none⟩) (by first | exact Nat.ne_of_lt (Nat.lt_of_lt_of_le (by have := World.block_lt_of_cell? _ _ hw139_3; first | rwa [add_block] at this | exact this) GW141.out) | (rw [add_block]; exact Nat.ne_of_lt (Nat.lt_of_lt_of_le (by have := World.block_lt_of_cell? _ _ hw139_3; first | rwa [add_block] at this | exact this) GW141.out)) | (show (Addr.add _ _).block ≠ _; rw [add_block]; exact Nat.ne_of_lt (Nat.lt_of_lt_of_le (by have := World.block_lt_of_cell? _ _ hw139_3; first | rwa [add_block] at this | exact this) GW141.out)) | (dsimp only; exact Nat.ne_of_lt (Nat.lt_of_lt_of_le (by have := World.block_lt_of_cell? _ _ hw139_3; first | rwa [add_block] at this | exact this) GW141.out))) _).trans (hHeld.2.2.2.2.2.2.2.2.2.2.2.1)))))))))))), ((cell_far (p := ⟨gb141, _, none⟩) (by first | exact Nat.ne_of_lt (Nat.lt_of_lt_of_le (by have := World.block_lt_of_cell? _ _ hw140_0; first | rwa [add_block] at this | exact this) GW141.out) | (rw [add_block]; exact Nat.ne_of_lt (Nat.lt_of_lt_of_le (by have := World.block_lt_of_cell? _ _ hw140_0; first | rwa [add_block] at this | exact this) GW141.out)) | (show (Addr.add _ _).block ≠ _; rw [add_block]; exact Nat.ne_of_lt (Nat.lt_of_lt_of_le (by have := World.block_lt_of_cell? _ _ hw140_0; first | rwa [add_block] at this | exact this) GW141.out)) | (dsimp only; exact Nat.ne_of_lt (Nat.lt_of_lt_of_le (by have := World.block_lt_of_cell? _ _ hw140_0; first | rwa [add_block] at this | exact this) GW141.out))) _).trans (((cell_far (p := ⟨gb141, _, none⟩) (by first | exact Nat.ne_of_lt (Nat.lt_of_lt_of_le (by have := World.block_lt_of_cell? _ _ hw140_0; first | rwa [add_block] at this | exact this) GW141.out) | (rw [add_block]; exact Nat.ne_of_lt (Nat.lt_of_lt_of_le (by have := World.block_lt_of_cell? _ _ hw140_0; first | rwa [add_block] at this | exact this) GW141.out)) | (show (Addr.add _ _).block ≠ _; rw [add_block]; exact Nat.ne_of_lt (Nat.lt_of_lt_of_le (by have := World.block_lt_of_cell? _ _ hw140_0; first | rwa [add_block] at this | exact this) GW141.out)) | (dsimp only; exact Nat.ne_of_lt (Nat.lt_of_lt_of_le (by have := World.block_lt_of_cell? _ _ hw140_0; first | rwa [add_block] at this | exact this) GW141.out))) _).trans (((cell_far (p := ⟨gb141, _, none⟩) (by first | exact Nat.ne_of_lt (Nat.lt_of_lt_of_le (by have := World.block_lt_of_cell? _ _ hw140_0; first | rwa [add_block] at this | exact this) GW141.out) | (rw [add_block]; exact Nat.ne_of_lt (Nat.lt_of_lt_of_le (by have := World.block_lt_of_cell? _ _ hw140_0; first | rwa [add_block] at this | exact this) GW141.out)) | (show (Addr.add _ _).block ≠ _; rw [add_block]; exact Nat.ne_of_lt (Nat.lt_of_lt_of_le (by have := World.block_lt_of_cell? _ _ hw140_0; first | rwa [add_block] at this | exact this) GW141.out)) | (dsimp only; exact Nat.ne_of_lt (Nat.lt_of_lt_of_le (by have := World.block_lt_of_cell? _ _ hw140_0; first | rwa [add_block] at this | exact this) GW141.out))) _).trans (((cell_far (p := ⟨gb141, _, none⟩) (by first | exact Nat.ne_of_lt (Nat.lt_of_lt_of_le (by have := World.block_lt_of_cell? _ _ hw140_0; first | rwa [add_block] at this | exact this) GW141.out) | (rw [add_block]; exact Nat.ne_of_lt (Nat.lt_of_lt_of_le (by have := World.block_lt_of_cell? _ _ hw140_0; first | rwa [add_block] at this | exact this) GW141.out)) | (show (Addr.add _ _).block ≠ _; rw [add_block]; exact Nat.ne_of_lt (Nat.lt_of_lt_of_le (by have := World.block_lt_of_cell? _ _ hw140_0; first | rwa [add_block] at this | exact this) GW141.out)) | (dsimp only; exact Nat.ne_of_lt (Nat.lt_of_lt_of_le (by have := World.block_lt_of_cell? _ _ hw140_0; first | rwa [add_block] at this | exact this) GW141.out))) _).trans (((cell_far (p := ⟨gb141, _, none⟩) (by first | exact Nat.ne_of_lt (Nat.lt_of_lt_of_le (by have := World.block_lt_of_cell? _ _ hw140_0; first | rwa [add_block] at this | exact this) GW141.out) | (rw [add_block]; exact Nat.ne_of_lt (Nat.lt_of_lt_of_le (by have := World.block_lt_of_cell? _ _ hw140_0; first | rwa [add_block] at this | exact this) GW141.out)) | (show (Addr.add _ _).block ≠ _; rw [add_block]; exact Nat.ne_of_lt (Nat.lt_of_lt_of_le (by have := World.block_lt_of_cell? _ _ hw140_0; first | rwa [add_block] at this | exact this) GW141.out)) | (dsimp only; exact Nat.ne_of_lt (Nat.lt_of_lt_of_le (by have := World.block_lt_of_cell? _ _ hw140_0; first | rwa [add_block] at this | exact this) GW141.out))) _).trans (((cell_far (p := ⟨gb141, _, none⟩) (by first | exact Nat.ne_of_lt (Nat.lt_of_lt_of_le (by have := World.block_lt_of_cell? _ _ hw140_0; first | rwa [add_block] at this | exact this) GW141.out) | (rw [add_block]; exact Nat.ne_of_lt (Nat.lt_of_lt_of_le (by have := World.block_lt_of_cell? _ _ hw140_0; first | rwa [add_block] at this | exact this) GW141.out)) | (show (Addr.add _ _).block ≠ _; rw [add_block]; exact Nat.ne_of_lt (Nat.lt_of_lt_of_le (by have := World.block_lt_of_cell? _ _ hw140_0; first | rwa [add_block] at this | exact this) GW141.out)) | (dsimp only; exact Nat.ne_of_lt (Nat.lt_of_lt_of_le (by have := World.block_lt_of_cell? _ _ hw140_0; first | rwa [add_block] at this | exact this) GW141.out))) _).trans (hHeld.2.2.2.2.2.2.2.2.2.2.2.2.1)))))))))))), ((cell_far (p := ⟨gb141, _, none⟩) (by first | exact Nat.ne_of_lt (Nat.lt_of_lt_of_le (by have := World.block_lt_of_cell? _ _ hw140_1; first | rwa [add_block] at this | exact this) GW141.out) | (rw [add_block]; exact Nat.ne_of_lt (Nat.lt_of_lt_of_le (by have := World.block_lt_of_cell? _ _ hw140_1; first | rwa [add_block] at this | exact this) GW141.out)) | (show (Addr.add _ _).block ≠ _; rw [add_block]; exact Nat.ne_of_lt (Nat.lt_of_lt_of_le (by have := World.block_lt_of_cell? _ _ hw140_1; first | rwa [add_block] at this | exact this) GW141.out)) | (dsimp only; exact Nat.ne_of_lt (Nat.lt_of_lt_of_le (by have := World.block_lt_of_cell? _ _ hw140_1; first | rwa [add_block] at this | exact this) GW141.out))) _).trans (((cell_far (p := ⟨gb141, _, none⟩) (by first | exact Nat.ne_of_lt (Nat.lt_of_lt_of_le (by have := World.block_lt_of_cell? _ _ hw140_1; first | rwa [add_block] at this | exact this) GW141.out) | (rw [add_block]; exact Nat.ne_of_lt (Nat.lt_of_lt_of_le (by have := World.block_lt_of_cell? _ _ hw140_1; first | rwa [add_block] at this | exact this) GW141.out)) | (show (Addr.add _ _).block ≠ _; rw [add_block]; exact Nat.ne_of_lt (Nat.lt_of_lt_of_le (by have := World.block_lt_of_cell? _ _ hw140_1; first | rwa [add_block] at this | exact this) GW141.out)) | (dsimp only; exact Nat.ne_of_lt (Nat.lt_of_lt_of_le (by have := World.block_lt_of_cell? _ _ hw140_1; first | rwa [add_block] at this | exact this) GW141.out))) _).trans (((cell_far (p := ⟨gb141, _, none⟩) (by first | exact Nat.ne_of_lt (Nat.lt_of_lt_of_le (by have := World.block_lt_of_cell? _ _ hw140_1; first | rwa [add_block] at this | exact this) GW141.out) | (rw [add_block]; exact Nat.ne_of_lt (Nat.lt_of_lt_of_le (by have := World.block_lt_of_cell? _ _ hw140_1; first | rwa [add_block] at this | exact this) GW141.out)) | (show (Addr.add _ _).block ≠ _; rw [add_block]; exact Nat.ne_of_lt (Nat.lt_of_lt_of_le (by have := World.block_lt_of_cell? _ _ hw140_1; first | rwa [add_block] at this | exact this) GW141.out)) | (dsimp only; exact Nat.ne_of_lt (Nat.lt_of_lt_of_le (by have := World.block_lt_of_cell? _ _ hw140_1; first | rwa [add_block] at this | exact this) GW141.out))) _).trans (((cell_far (p := ⟨gb141, _, none⟩) (by first | exact Nat.ne_of_lt (Nat.lt_of_lt_of_le (by have := World.block_lt_of_cell? _ _ hw140_1; first | rwa [add_block] at this | exact this) GW141.out) | (rw [add_block]; exact Nat.ne_of_lt (Nat.lt_of_lt_of_le (by have := World.block_lt_of_cell? _ _ hw140_1; first | rwa [add_block] at this | exact this) GW141.out)) | (show (Addr.add _ _).block ≠ _; rw [add_block]; exact Nat.ne_of_lt (Nat.lt_of_lt_of_le (by have := World.block_lt_of_cell? _ _ hw140_1; first | rwa [add_block] at this | exact this) GW141.out)) | (dsimp only; exact Nat.ne_of_lt (Nat.lt_of_lt_of_le (by have := World.block_lt_of_cell? _ _ hw140_1; first | rwa [add_block] at this | exact this) GW141.out))) _).trans (((cell_far (p := ⟨gb141, _, none⟩) (by first | exact Nat.ne_of_lt (Nat.lt_of_lt_of_le (by have := World.block_lt_of_cell? _ _ hw140_1; first | rwa [add_block] at this | exact this) GW141.out) | (rw [add_block]; exact Nat.ne_of_lt (Nat.lt_of_lt_of_le (by have := World.block_lt_of_cell? _ _ hw140_1; first | rwa [add_block] at this | exact this) GW141.out)) | (show (Addr.add _ _).block ≠ _; rw [add_block]; exact Nat.ne_of_lt (Nat.lt_of_lt_of_le (by have := World.block_lt_of_cell? _ _ hw140_1; first | rwa [add_block] at this | exact this) GW141.out)) | (dsimp only; exact Nat.ne_of_lt (Nat.lt_of_lt_of_le (by have := World.block_lt_of_cell? _ _ hw140_1; first | rwa [add_block] at this | exact this) GW141.out))) _).trans (((cell_far (p := ⟨gb141, _, none⟩) (by first | exact Nat.ne_of_lt (Nat.lt_of_lt_of_le (by have := World.block_lt_of_cell? _ _ hw140_1; first | rwa [add_block] at this | exact this) GW141.out) | (rw [add_block]; exact Nat.ne_of_lt (Nat.lt_of_lt_of_le (by have := World.block_lt_of_cell? _ _ hw140_1; first | rwa [add_block] at this | exact this) GW141.out)) | (show (Addr.add _ _).block ≠ _; rw [add_block]; exact Nat.ne_of_lt (Nat.lt_of_lt_of_le (by have := World.block_lt_of_cell? _ _ hw140_1; first | rwa [add_block] at this | exact this) GW141.out)) | (dsimp only; exact Nat.ne_of_lt (Nat.lt_of_lt_of_le (by have := World.block_lt_of_cell? _ _ hw140_1; first | rwa [add_block] at this | exact this) GW141.out))) _).trans (hHeld.2.2.2.2.2.2.2.2.2.2.2.2.2.1)))))))))))), ((cell_far (p := ⟨gb141, _, none⟩) (by first | exact Nat.ne_of_lt (Nat.lt_of_lt_of_le (by have := World.block_lt_of_cell? _ _ hw140_2; first | rwa [add_block] at this | exact this) GW141.out) | (rw [add_block]; exact Nat.ne_of_lt (Nat.lt_of_lt_of_le (by have := World.block_lt_of_cell? _ _ hw140_2; first | rwa [add_block] at this | exact this) GW141.out)) | (show (Addr.add _ _).block ≠ _; rw [add_block]; exact Nat.ne_of_lt (Nat.lt_of_lt_of_le (by have := World.block_lt_of_cell? _ _ hw140_2; first | rwa [add_block] at this | exact this) GW141.out)) | (dsimp only; exact Nat.ne_of_lt (Nat.lt_of_lt_of_le (by have := World.block_lt_of_cell? _ _ hw140_2; first | rwa [add_block] at this | exact this) GW141.out))) _).trans (((cell_far (p := ⟨gb141, _, none⟩) (by first | exact Nat.ne_of_lt (Nat.lt_of_lt_of_le (by have := World.block_lt_of_cell? _ _ hw140_2; first | rwa [add_block] at this | exact this) GW141.out) | (rw [add_block]; exact Nat.ne_of_lt (Nat.lt_of_lt_of_le (by have := World.block_lt_of_cell? _ _ hw140_2; first | rwa [add_block] at this | exact this) GW141.out)) | (show (Addr.add _ _).block ≠ _; rw [add_block]; exact Nat.ne_of_lt (Nat.lt_of_lt_of_le (by have := World.block_lt_of_cell? _ _ hw140_2; first | rwa [add_block] at this | exact this) GW141.out)) | (dsimp only; exact Nat.ne_of_lt (Nat.lt_of_lt_of_le (by have := World.block_lt_of_cell? _ _ hw140_2; first | rwa [add_block] at this | exact this) GW141.out))) _).trans (((cell_far (p := ⟨gb141, _, none⟩) (by first | exact Nat.ne_of_lt (Nat.lt_of_lt_of_le (by have := World.block_lt_of_cell? _ _ hw140_2; first | rwa [add_block] at this | exact this) GW141.out) | (rw [add_block]; exact Nat.ne_of_lt (Nat.lt_of_lt_of_le (by have := World.block_lt_of_cell? _ _ hw140_2; first | rwa [add_block] at this | exact this) GW141.out)) | (show (Addr.add _ _).block ≠ _; rw [add_block]; exact Nat.ne_of_lt (Nat.lt_of_lt_of_le (by have := World.block_lt_of_cell? _ _ hw140_2; first | rwa [add_block] at this | exact this) GW141.out)) | (dsimp only; exact Nat.ne_of_lt (Nat.lt_of_lt_of_le (by have := World.block_lt_of_cell? _ _ hw140_2; first | rwa [add_block] at this | exact this) GW141.out))) _).trans (((cell_far (p := ⟨gb141, _, none⟩) (by first | exact Nat.ne_of_lt (Nat.lt_of_lt_of_le (by have := World.block_lt_of_cell? _ _ hw140_2; first | rwa [add_block] at this | exact this) GW141.out) | (rw [add_block]; exact Nat.ne_of_lt (Nat.lt_of_lt_of_le (by have := World.block_lt_of_cell? _ _ hw140_2; first | rwa [add_block] at this | exact this) GW141.out)) | (show (Addr.add _ _).block ≠ _; rw [add_block]; exact Nat.ne_of_lt (Nat.lt_of_lt_of_le (by have := World.block_lt_of_cell? _ _ hw140_2; first | rwa [add_block] at this | exact this) GW141.out)) | (dsimp only; exact Nat.ne_of_lt (Nat.lt_of_lt_of_le (by have := World.block_lt_of_cell? _ _ hw140_2; first | rwa [add_block] at this | exact this) GW141.out))) _).trans (((cell_far (p := ⟨gb141, _, none⟩) (by first | exact Nat.ne_of_lt (Nat.lt_of_lt_of_le (by have := World.block_lt_of_cell? _ _ hw140_2; first | rwa [add_block] at this | exact this) GW141.out) | (rw [add_block]; exact Nat.ne_of_lt (Nat.lt_of_lt_of_le (by have := World.block_lt_of_cell? _ _ hw140_2; first | rwa [add_block] at this | exact this) GW141.out)) | (show (Addr.add _ _).block ≠ _; rw [add_block]; exact Nat.ne_of_lt (Nat.lt_of_lt_of_le (by have := World.block_lt_of_cell? _ _ hw140_2; first | rwa [add_block] at this | exact this) GW141.out)) | (dsimp only; exact Nat.ne_of_lt (Nat.lt_of_lt_of_le (by have := World.block_lt_of_cell? _ _ hw140_2; first | rwa [add_block] at this | exact this) GW141.out))) _).trans (((cell_far (p := ⟨gb141, _, none⟩) (by first | exact Nat.ne_of_lt (Nat.lt_of_lt_of_le (by have := World.block_lt_of_cell? _ _ hw140_2; first | rwa [add_block] at this | exact this) GW141.out) | (rw [add_block]; exact Nat.ne_of_lt (Nat.lt_of_lt_of_le (by have := World.block_lt_of_cell? _ _ hw140_2; first | rwa [add_block] at this | exact this) GW141.out)) | (show (Addr.add _ _).block ≠ _; rw [add_block]; exact Nat.ne_of_lt (Nat.lt_of_lt_of_le (by have := World.block_lt_of_cell? _ _ hw140_2; first | rwa [add_block] at this | exact this) GW141.out)) | (dsimp only; exact Nat.ne_of_lt (Nat.lt_of_lt_of_le (by have := World.block_lt_of_cell? _ _ hw140_2; first | rwa [add_block] at this | exact this) GW141.out))) _).trans (hHeld.2.2.2.2.2.2.2.2.2.2.2.2.2.2.1)))))))))))), ((cell_far (p := ⟨gb141, _, none⟩) (by first | exact Nat.ne_of_lt (Nat.lt_of_lt_of_le (by have := World.block_lt_of_cell? _ _ hw140_3; first | rwa [add_block] at this | exact this) GW141.out) | (rw [add_block]; exact Nat.ne_of_lt (Nat.lt_of_lt_of_le (by have := World.block_lt_of_cell? _ _ hw140_3; first | rwa [add_block] at this | exact this) GW141.out)) | (show (Addr.add _ _).block ≠ _; rw [add_block]; exact Nat.ne_of_lt (Nat.lt_of_lt_of_le (by have := World.block_lt_of_cell? _ _ hw140_3; first | rwa [add_block] at this | exact this) GW141.out)) | (dsimp only; exact Nat.ne_of_lt (Nat.lt_of_lt_of_le (by have := World.block_lt_of_cell? _ _ hw140_3; first | rwa [add_block] at this | exact this) GW141.out))) _).trans (((cell_far (p := ⟨gb141, _, none⟩) (by first | exact Nat.ne_of_lt (Nat.lt_of_lt_of_le (by have := World.block_lt_of_cell? _ _ hw140_3; first | rwa [add_block] at this | exact this) GW141.out) | (rw [add_block]; exact Nat.ne_of_lt (Nat.lt_of_lt_of_le (by have := World.block_lt_of_cell? _ _ hw140_3; first | rwa [add_block] at this | exact this) GW141.out)) | (show (Addr.add _ _).block ≠ _; rw [add_block]; exact Nat.ne_of_lt (Nat.lt_of_lt_of_le (by have := World.block_lt_of_cell? _ _ hw140_3; first | rwa [add_block] at this | exact this) GW141.out)) | (dsimp only; exact Nat.ne_of_lt (Nat.lt_of_lt_of_le (by have := World.block_lt_of_cell? _ _ hw140_3; first | rwa [add_block] at this | exact this) GW141.out))) _).trans (((cell_far (p := ⟨gb141, _, none⟩) (by first | exact Nat.ne_of_lt (Nat.lt_of_lt_of_le (by have := World.block_lt_of_cell? _ _ hw140_3; first | rwa [add_block] at this | exact this) GW141.out) | (rw [add_block]; exact Nat.ne_of_lt (Nat.lt_of_lt_of_le (by have := World.block_lt_of_cell? _ _ hw140_3; first | rwa [add_block] at this | exact this) GW141.out)) | (show (Addr.add _ _).block ≠ _; rw [add_block]; exact Nat.ne_of_lt (Nat.lt_of_lt_of_le (by have := World.block_lt_of_cell? _ _ hw140_3; first | rwa [add_block] at this | exact this) GW141.out)) | (dsimp only; exact Nat.ne_of_lt (Nat.lt_of_lt_of_le (by have := World.block_lt_of_cell? _ _ hw140_3; first | rwa [add_block] at this | exact this) GW141.out))) _).trans (((cell_far (p := ⟨gb141, _, none⟩) (by first | exact Nat.ne_of_lt (Nat.lt_of_lt_of_le (by have := World.block_lt_of_cell? _ _ hw140_3; first | rwa [add_block] at this | exact this) GW141.out) | (rw [add_block]; exact Nat.ne_of_lt (Nat.lt_of_lt_of_le (by have := World.block_lt_of_cell? _ _ hw140_3; first | rwa [add_block] at this | exact this) GW141.out)) | (show (Addr.add _ _).block ≠ _; rw [add_block]; exact Nat.ne_of_lt (Nat.lt_of_lt_of_le (by have := World.block_lt_of_cell? _ _ hw140_3; first | rwa [add_block] at this | exact this) GW141.out)) | (dsimp only; exact Nat.ne_of_lt (Nat.lt_of_lt_of_le (by have := World.block_lt_of_cell? _ _ hw140_3; first | rwa [add_block] at this | exact this) GW141.out))) _).trans (((cell_far (p := ⟨gb141, _, none⟩) (by first | exact Nat.ne_of_lt (Nat.lt_of_lt_of_le (by have := World.block_lt_of_cell? _ _ hw140_3; first | rwa [add_block] at this | exact this) GW141.out) | (rw [add_block]; exact Nat.ne_of_lt (Nat.lt_of_lt_of_le (by have := World.block_lt_of_cell? _ _ hw140_3; first | rwa [add_block] at this | exact this) GW141.out)) | (show (Addr.add _ _).block ≠ _; rw [add_block]; exact Nat.ne_of_lt (Nat.lt_of_lt_of_le (by have := World.block_lt_of_cell? _ _ hw140_3; first | rwa [add_block] at this | exact this) GW141.out)) | (dsimp only; exact Nat.ne_of_lt (Nat.lt_of_lt_of_le (by have := World.block_lt_of_cell? _ _ hw140_3; first | rwa [add_block] at this | exact this) GW141.out))) _).trans (((cell_far (p := ⟨gb141, _, none⟩) (by first | exact Nat.ne_of_lt (Nat.lt_of_lt_of_le (by have := World.block_lt_of_cell? _ _ hw140_3; first | rwa [add_block] at this | exact this) GW141.out) | (rw [add_block]; exact Nat.ne_of_lt (Nat.lt_of_lt_of_le (by have := World.block_lt_of_cell? _ _ hw140_3; first | rwa [add_block] at this | exact this) GW141.out)) | (show (Addr.add _ _).block ≠ _; rw [add_block]; exact Nat.ne_of_lt (Nat.lt_of_lt_of_le (by have := World.block_lt_of_cell? _ _ hw140_3; first | rwa [add_block] at this | exact this) GW141.out)) | (dsimp only; exact Nat.ne_of_lt (Nat.lt_of_lt_of_le (by have := World.block_lt_of_cell? _ _ hw140_3; first | rwa [add_block] at this | exact this) GW141.out))) _).trans (hHeld.2.2.2.2.2.2.2.2.2.2.2.2.2.2.2))))))))))))⟩ (fun hHeld => ?_)
          clear hK K
          refine done_ (done_of HT_.out (by kernel_rfl)) ?_
          go_upto_region 8 with (fail)
          go_cut [56] (fun v56 wc => ∃ (kq : Nat) (x56_3 : Bool), v56 = .bool x56_3 ∧ Aside0 (lamplighterlaw22_done.j1 kq l0 x5_1 x6_1 x7_1 x8_1 x56_3 (wrap64 ((wrap64 (10 * x8_1)) - (wrap64 (Int.tmod ((rd_T33 l0 x8_1).f2) 40)))) (wrap64 ((wrap64 (10 * x8_1)) + (wrap64 (Int.tmod ((rd_T33 l0 x8_1).f2) 30)))) (wrap64 (1 + (wrap64 (Int.tmod ((rd_T33 l0 x8_1).f0) 3)))) (⟨#[]⟩ : ByteArray) x7_1 ((rd_T33 l0 x8_1).f3) = some (r1, r2, r3)) ∧ Aside0 (kq ≤ k1) ∧ Aside0 (Kd.R k37 37 wc w.heap.size (fun k_ => k_ ≠ gb141) u5 x5_1) ∧ Aside0 (wc.heap[gb141]? = some (.cells #[.int .i64 (wrap64 ((wrap64 (10 * x8_1)) - (wrap64 (Int.tmod ((rd_T33 l0 x8_1).f2) 40)))), .int .i64 (wrap64 ((wrap64 (10 * x8_1)) + (wrap64 (Int.tmod ((rd_T33 l0 x8_1).f2) 30)))), .int .i64 (wrap64 (1 + (wrap64 (Int.tmod ((rd_T33 l0 x8_1).f0) 3)))), .string (⟨#[]⟩ : ByteArray), .bool x7_1, .bool ((rd_T33 l0 x8_1).f3)] 37 (0, 0))) ∧ Aside0 (Below w.heap.size w wc))
          case first =>
            have H := HC4.out
            clear HC4
            by_cases c13 : (wrap64 (1 + (wrap64 (Int.tmod ((rd_T33 l0 x8_1).f0) 3)))) = 2
            · rw [if_pos c13] at H
              have c13b0 : ((wrap64 (1 + (wrap64 (Int.tmod ((rd_T33 l0 x8_1).f0) 3)))) == 2) = true := beq_iff_eq.mpr c13
              have c13b1 : ((wrap64 (1 + (wrap64 (Int.tmod ((rd_T33 l0 x8_1).f0) 3)))) != 2) = false := bne_eq_false_iff_eq.mpr c13
              clear c13
              (first | rw [c13b0] | (simp only [i64_w, i32_w]; rw [c13b0]) | skip)
              have H' := Aside0.mk H
              clear H
              have hcz14_0 : w6.cell? ⟨gb141, 0, none⟩ = some (.int .i64 0) := (blk_cell BK141.out 0).trans rfl
              have hcz14_1 : w6.cell? ⟨gb141, 1, none⟩ = some (.int .i64 0) := (blk_cell BK141.out 1).trans rfl
              have hcz14_2 : w6.cell? ⟨gb141, 2, none⟩ = some (.int .i64 0) := (blk_cell BK141.out 2).trans rfl
              have hcz14_3 : w6.cell? ⟨gb141, 3, none⟩ = some (.string (⟨#[]⟩ : ByteArray)) := (blk_cell BK141.out 3).trans rfl
              have hcz14_4 : w6.cell? ⟨gb141, 4, none⟩ = some (.bool false) := (blk_cell BK141.out 4).trans rfl
              have hcz14_5 : w6.cell? ⟨gb141, 5, none⟩ = some (.bool false) := (blk_cell BK141.out 5).trans rfl
              have hfz14_0 := blk_frozen BK141.out 0
              have hfz14_1 := blk_frozen BK141.out 1
              have hfz14_2 := blk_frozen BK141.out 2
              have hfz14_3 := blk_frozen BK141.out 3
              have hfz14_4 := blk_frozen BK141.out 4
              have hfz14_5 := blk_frozen BK141.out 5
              go_wp2
              go_meet
              case rel => exact ⟨_, (x7_1), (by first | rfl | (simp; done) | (simp [*]; done)), H', ⟨by have := HK1.out; first | omega | exact Nat.le_refl _⟩, ⟨by (with_reducible repeat (first | apply Kd.R_alloc | apply Kd.R_drewN | apply Kd.R_drew)); exact Kd.R_mono (Kd.R_far (p := ⟨gb141, 5, none⟩) (Kd.R_far (p := ⟨gb141, 4, none⟩) (Kd.R_far (p := ⟨gb141, 3, none⟩) (Kd.R_far (p := ⟨gb141, 2, none⟩) (Kd.R_far (p := ⟨gb141, 1, none⟩) (Kd.R_far (p := ⟨gb141, 0, none⟩) (Kd.R_mono HO_5.out (fun k_ hk => (⟨hk, hk.2⟩ : _ ∧ k_ ≠ gb141))) (fun _ hk => hk.2) (.int .i64 (wrap64 ((wrap64 (10 * x8_1)) - (wrap64 (Int.tmod ((rd_T33 l0 x8_1).f2) 40)))))) (fun _ hk => hk.2) (.int .i64 (wrap64 ((wrap64 (10 * x8_1)) + (wrap64 (Int.tmod ((rd_T33 l0 x8_1).f2) 30)))))) (fun _ hk => hk.2) (.int .i64 (wrap64 (1 + (wrap64 (Int.tmod ((rd_T33 l0 x8_1).f0) 3)))))) (fun _ hk => hk.2) (.string (⟨#[]⟩ : ByteArray))) (fun _ hk => hk.2) (.bool x7_1)) (fun _ hk => hk.2) (.bool ((rd_T33 l0 x8_1).f3))) (fun _ hk => hk.1.2)⟩, ⟨by (with_reducible repeat (first | refine blk_drewN ?_ _ | refine blk_drew ?_ | refine blk_alloc ?_ _)); refine blk_put (cs := #[.int .i64 (wrap64 ((wrap64 (10 * x8_1)) - (wrap64 (Int.tmod ((rd_T33 l0 x8_1).f2) 40)))), .int .i64 (wrap64 ((wrap64 (10 * x8_1)) + (wrap64 (Int.tmod ((rd_T33 l0 x8_1).f2) 30)))), .int .i64 (wrap64 (1 + (wrap64 (Int.tmod ((rd_T33 l0 x8_1).f0) 3)))), .string (⟨#[]⟩ : ByteArray), .bool x7_1, .bool false]) ?_ 5 _ rfl; (with_reducible repeat (first | refine blk_drewN ?_ _ | refine blk_drew ?_ | refine blk_alloc ?_ _)); refine blk_put (cs := #[.int .i64 (wrap64 ((wrap64 (10 * x8_1)) - (wrap64 (Int.tmod ((rd_T33 l0 x8_1).f2) 40)))), .int .i64 (wrap64 ((wrap64 (10 * x8_1)) + (wrap64 (Int.tmod ((rd_T33 l0 x8_1).f2) 30)))), .int .i64 (wrap64 (1 + (wrap64 (Int.tmod ((rd_T33 l0 x8_1).f0) 3)))), .string (⟨#[]⟩ : ByteArray), .bool false, .bool false]) ?_ 4 _ rfl; (with_reducible repeat (first | refine blk_drewN ?_ _ | refine blk_drew ?_ | refine blk_alloc ?_ _)); refine blk_put (cs := #[.int .i64 (wrap64 ((wrap64 (10 * x8_1)) - (wrap64 (Int.tmod ((rd_T33 l0 x8_1).f2) 40)))), .int .i64 (wrap64 ((wrap64 (10 * x8_1)) + (wrap64 (Int.tmod ((rd_T33 l0 x8_1).f2) 30)))), .int .i64 (wrap64 (1 + (wrap64 (Int.tmod ((rd_T33 l0 x8_1).f0) 3)))), .string (⟨#[]⟩ : ByteArray), .bool false, .bool false]) ?_ 3 _ rfl; (with_reducible repeat (first | refine blk_drewN ?_ _ | refine blk_drew ?_ | refine blk_alloc ?_ _)); refine blk_put (cs := #[.int .i64 (wrap64 ((wrap64 (10 * x8_1)) - (wrap64 (Int.tmod ((rd_T33 l0 x8_1).f2) 40)))), .int .i64 (wrap64 ((wrap64 (10 * x8_1)) + (wrap64 (Int.tmod ((rd_T33 l0 x8_1).f2) 30)))), .int .i64 0, .string (⟨#[]⟩ : ByteArray), .bool false, .bool false]) ?_ 2 _ rfl; (with_reducible repeat (first | refine blk_drewN ?_ _ | refine blk_drew ?_ | refine blk_alloc ?_ _)); refine blk_put (cs := #[.int .i64 (wrap64 ((wrap64 (10 * x8_1)) - (wrap64 (Int.tmod ((rd_T33 l0 x8_1).f2) 40)))), .int .i64 0, .int .i64 0, .string (⟨#[]⟩ : ByteArray), .bool false, .bool false]) ?_ 1 _ rfl; (with_reducible repeat (first | refine blk_drewN ?_ _ | refine blk_drew ?_ | refine blk_alloc ?_ _)); refine blk_put (cs := #[.int .i64 0, .int .i64 0, .int .i64 0, .string (⟨#[]⟩ : ByteArray), .bool false, .bool false]) ?_ 0 _ rfl; (with_reducible repeat (first | refine blk_drewN ?_ _ | refine blk_drew ?_ | refine blk_alloc ?_ _)); exact BK141.out⟩, ⟨by repeat (first | (with_reducible first | exact HB.out | apply below_alloc | apply pw_below_drewN | apply below_drew1 | refine below_set ?_ GE141.out) | exact HB.out)⟩⟩
            · rw [if_neg c13] at H
              have c13b0 : ((wrap64 (1 + (wrap64 (Int.tmod ((rd_T33 l0 x8_1).f0) 3)))) == 2) = false := beq_eq_false_iff_ne.mpr c13
              have c13b1 : ((wrap64 (1 + (wrap64 (Int.tmod ((rd_T33 l0 x8_1).f0) 3)))) != 2) = true := bne_iff_ne.mpr c13
              (first | rw [c13b0] | (simp only [i64_w, i32_w]; rw [c13b0]) | skip)
              have H' := Aside0.mk H
              clear H
              have hcz15_0 : w6.cell? ⟨gb141, 0, none⟩ = some (.int .i64 0) := (blk_cell BK141.out 0).trans rfl
              have hcz15_1 : w6.cell? ⟨gb141, 1, none⟩ = some (.int .i64 0) := (blk_cell BK141.out 1).trans rfl
              have hcz15_2 : w6.cell? ⟨gb141, 2, none⟩ = some (.int .i64 0) := (blk_cell BK141.out 2).trans rfl
              have hcz15_3 : w6.cell? ⟨gb141, 3, none⟩ = some (.string (⟨#[]⟩ : ByteArray)) := (blk_cell BK141.out 3).trans rfl
              have hcz15_4 : w6.cell? ⟨gb141, 4, none⟩ = some (.bool false) := (blk_cell BK141.out 4).trans rfl
              have hcz15_5 : w6.cell? ⟨gb141, 5, none⟩ = some (.bool false) := (blk_cell BK141.out 5).trans rfl
              have hfz15_0 := blk_frozen BK141.out 0
              have hfz15_1 := blk_frozen BK141.out 1
              have hfz15_2 := blk_frozen BK141.out 2
              have hfz15_3 := blk_frozen BK141.out 3
              have hfz15_4 := blk_frozen BK141.out 4
              have hfz15_5 := blk_frozen BK141.out 5
              go_wp2
              go_meet
              case rel => exact ⟨_, (false), (by first | rfl | (simp; done) | (simp [*]; done)), H', ⟨by have := HK1.out; first | omega | exact Nat.le_refl _⟩, ⟨by (with_reducible repeat (first | apply Kd.R_alloc | apply Kd.R_drewN | apply Kd.R_drew)); exact Kd.R_mono (Kd.R_far (p := ⟨gb141, 5, none⟩) (Kd.R_far (p := ⟨gb141, 4, none⟩) (Kd.R_far (p := ⟨gb141, 3, none⟩) (Kd.R_far (p := ⟨gb141, 2, none⟩) (Kd.R_far (p := ⟨gb141, 1, none⟩) (Kd.R_far (p := ⟨gb141, 0, none⟩) (Kd.R_mono HO_5.out (fun k_ hk => (⟨hk, hk.2⟩ : _ ∧ k_ ≠ gb141))) (fun _ hk => hk.2) (.int .i64 (wrap64 ((wrap64 (10 * x8_1)) - (wrap64 (Int.tmod ((rd_T33 l0 x8_1).f2) 40)))))) (fun _ hk => hk.2) (.int .i64 (wrap64 ((wrap64 (10 * x8_1)) + (wrap64 (Int.tmod ((rd_T33 l0 x8_1).f2) 30)))))) (fun _ hk => hk.2) (.int .i64 (wrap64 (1 + (wrap64 (Int.tmod ((rd_T33 l0 x8_1).f0) 3)))))) (fun _ hk => hk.2) (.string (⟨#[]⟩ : ByteArray))) (fun _ hk => hk.2) (.bool x7_1)) (fun _ hk => hk.2) (.bool ((rd_T33 l0 x8_1).f3))) (fun _ hk => hk.1.2)⟩, ⟨by (with_reducible repeat (first | refine blk_drewN ?_ _ | refine blk_drew ?_ | refine blk_alloc ?_ _)); refine blk_put (cs := #[.int .i64 (wrap64 ((wrap64 (10 * x8_1)) - (wrap64 (Int.tmod ((rd_T33 l0 x8_1).f2) 40)))), .int .i64 (wrap64 ((wrap64 (10 * x8_1)) + (wrap64 (Int.tmod ((rd_T33 l0 x8_1).f2) 30)))), .int .i64 (wrap64 (1 + (wrap64 (Int.tmod ((rd_T33 l0 x8_1).f0) 3)))), .string (⟨#[]⟩ : ByteArray), .bool x7_1, .bool false]) ?_ 5 _ rfl; (with_reducible repeat (first | refine blk_drewN ?_ _ | refine blk_drew ?_ | refine blk_alloc ?_ _)); refine blk_put (cs := #[.int .i64 (wrap64 ((wrap64 (10 * x8_1)) - (wrap64 (Int.tmod ((rd_T33 l0 x8_1).f2) 40)))), .int .i64 (wrap64 ((wrap64 (10 * x8_1)) + (wrap64 (Int.tmod ((rd_T33 l0 x8_1).f2) 30)))), .int .i64 (wrap64 (1 + (wrap64 (Int.tmod ((rd_T33 l0 x8_1).f0) 3)))), .string (⟨#[]⟩ : ByteArray), .bool false, .bool false]) ?_ 4 _ rfl; (with_reducible repeat (first | refine blk_drewN ?_ _ | refine blk_drew ?_ | refine blk_alloc ?_ _)); refine blk_put (cs := #[.int .i64 (wrap64 ((wrap64 (10 * x8_1)) - (wrap64 (Int.tmod ((rd_T33 l0 x8_1).f2) 40)))), .int .i64 (wrap64 ((wrap64 (10 * x8_1)) + (wrap64 (Int.tmod ((rd_T33 l0 x8_1).f2) 30)))), .int .i64 (wrap64 (1 + (wrap64 (Int.tmod ((rd_T33 l0 x8_1).f0) 3)))), .string (⟨#[]⟩ : ByteArray), .bool false, .bool false]) ?_ 3 _ rfl; (with_reducible repeat (first | refine blk_drewN ?_ _ | refine blk_drew ?_ | refine blk_alloc ?_ _)); refine blk_put (cs := #[.int .i64 (wrap64 ((wrap64 (10 * x8_1)) - (wrap64 (Int.tmod ((rd_T33 l0 x8_1).f2) 40)))), .int .i64 (wrap64 ((wrap64 (10 * x8_1)) + (wrap64 (Int.tmod ((rd_T33 l0 x8_1).f2) 30)))), .int .i64 0, .string (⟨#[]⟩ : ByteArray), .bool false, .bool false]) ?_ 2 _ rfl; (with_reducible repeat (first | refine blk_drewN ?_ _ | refine blk_drew ?_ | refine blk_alloc ?_ _)); refine blk_put (cs := #[.int .i64 (wrap64 ((wrap64 (10 * x8_1)) - (wrap64 (Int.tmod ((rd_T33 l0 x8_1).f2) 40)))), .int .i64 0, .int .i64 0, .string (⟨#[]⟩ : ByteArray), .bool false, .bool false]) ?_ 1 _ rfl; (with_reducible repeat (first | refine blk_drewN ?_ _ | refine blk_drew ?_ | refine blk_alloc ?_ _)); refine blk_put (cs := #[.int .i64 0, .int .i64 0, .int .i64 0, .string (⟨#[]⟩ : ByteArray), .bool false, .bool false]) ?_ 0 _ rfl; (with_reducible repeat (first | refine blk_drewN ?_ _ | refine blk_drew ?_ | refine blk_alloc ?_ _)); exact BK141.out⟩, ⟨by repeat (first | (with_reducible first | exact HB.out | apply below_alloc | apply pw_below_drewN | apply below_drew1 | refine below_set ?_ GE141.out) | exact HB.out)⟩⟩
          case rest =>
            clear HC4
            try clear c1
            try clear p1
            try clear q1
            try clear hx1
            try clear c2
            try clear c2b0
            try clear p2
            try clear c3
            try clear c3b0
            try clear p6
            try clear c13
            try clear c13b0
            try clear c13b1
            try clear p13
            try clear q13
            try clear hx13
            try clear p14
            try clear q14
            try clear hx14
            try clear hcz14_0
            try clear hcz14_1
            try clear hcz14_2
            try clear hcz14_3
            try clear hcz14_4
            try clear hcz14_5
            try clear hcz15_0
            try clear hcz15_1
            try clear hcz15_2
            try clear hcz15_3
            try clear hcz15_4
            try clear hcz15_5
            try clear hfz14_0
            try clear hfz14_1
            try clear hfz14_2
            try clear hfz14_3
            try clear hfz14_4
            try clear hfz14_5
            try clear hfz15_0
            try clear hfz15_1
            try clear hfz15_2
            try clear hfz15_3
            try clear hfz15_4
            try clear hfz15_5
            try clear hx137_0
            try clear hx137_1
            try clear hx137_2
            try clear hx137_3
            try clear hx138_0
            try clear hx138_1
            try clear hx138_2
            try clear hx138_3
            try clear hx139_0
            try clear hx139_1
            try clear hx139_2
            try clear hx139_3
            try clear hx140_0
            try clear hx140_1
            try clear hx140_2
            try clear hx140_3
            try clear p137
            try clear p138
            try clear p139
            try clear p140
            try clear q137
            try clear q138
            try clear q139
            try clear q140
            obtain ⟨kq, x56_3, rfl, HA, HJ3, HO_5, BK141, HB⟩ := hcut
            cases kq with
            | zero => exact absurd HA.out (by simp [lamplighterlaw22_done.j1])
            | succ kj3 =>
              have H := HA.out
              clear HA
              simp only [lamplighterlaw22_done.j1] at H
              have HC16 := Aside0.mk H
              clear H
              go_upto_if 56 with (fail)
              go_cut [] (fun wc => ∃ (kq : Nat) (x142003_15 : ByteArray), Aside0 (lamplighterlaw22_done.j2 kq l0 x5_1 x6_1 x7_1 x8_1 (wrap64 ((wrap64 (10 * x8_1)) - (wrap64 (Int.tmod ((rd_T33 l0 x8_1).f2) 40)))) (wrap64 ((wrap64 (10 * x8_1)) + (wrap64 (Int.tmod ((rd_T33 l0 x8_1).f2) 30)))) (wrap64 (1 + (wrap64 (Int.tmod ((rd_T33 l0 x8_1).f0) 3)))) x142003_15 x7_1 ((rd_T33 l0 x8_1).f3) = some (r1, r2, r3)) ∧ Aside0 (kq ≤ kj3) ∧ Aside0 (Kd.R k37 37 wc w.heap.size (fun k_ => k_ ≠ gb141) u5 x5_1) ∧ Aside0 (wc.heap[gb141]? = some (.cells #[.int .i64 (wrap64 ((wrap64 (10 * x8_1)) - (wrap64 (Int.tmod ((rd_T33 l0 x8_1).f2) 40)))), .int .i64 (wrap64 ((wrap64 (10 * x8_1)) + (wrap64 (Int.tmod ((rd_T33 l0 x8_1).f2) 30)))), .int .i64 (wrap64 (1 + (wrap64 (Int.tmod ((rd_T33 l0 x8_1).f0) 3)))), .string x142003_15, .bool x7_1, .bool ((rd_T33 l0 x8_1).f3)] 37 (0, 0))) ∧ Aside0 (Below w.heap.size w wc))
              case first =>
                have H := HC16.out
                clear HC16
                by_cases c17 : x56_3 = true
                · subst c17
                  have H1 : (lamplighterlaw22_done.j2 kj3 l0 x5_1 x6_1 x7_1 x8_1 (wrap64 ((wrap64 (10 * x8_1)) - (wrap64 (Int.tmod ((rd_T33 l0 x8_1).f2) 40)))) (wrap64 ((wrap64 (10 * x8_1)) + (wrap64 (Int.tmod ((rd_T33 l0 x8_1).f2) 30)))) (wrap64 (1 + (wrap64 (Int.tmod ((rd_T33 l0 x8_1).f0) 3)))) x6_1 x7_1 ((rd_T33 l0 x8_1).f3)) = some (r1, r2, r3) := by rw [if_pos rfl] at H; exact H
                  clear H
                  have H := H1
                  clear H1
                  have H' := Aside0.mk H
                  clear H
                  have hcz18_0 : wc.cell? ⟨gb141, 0, none⟩ = some (.int .i64 (wrap64 ((wrap64 (10 * x8_1)) - (wrap64 (Int.tmod ((rd_T33 l0 x8_1).f2) 40))))) := (blk_cell BK141.out 0).trans rfl
                  have hcz18_1 : wc.cell? ⟨gb141, 1, none⟩ = some (.int .i64 (wrap64 ((wrap64 (10 * x8_1)) + (wrap64 (Int.tmod ((rd_T33 l0 x8_1).f2) 30))))) := (blk_cell BK141.out 1).trans rfl
                  have hcz18_2 : wc.cell? ⟨gb141, 2, none⟩ = some (.int .i64 (wrap64 (1 + (wrap64 (Int.tmod ((rd_T33 l0 x8_1).f0) 3))))) := (blk_cell BK141.out 2).trans rfl
                  have hcz18_3 : wc.cell? ⟨gb141, 3, none⟩ = some (.string (⟨#[]⟩ : ByteArray)) := (blk_cell BK141.out 3).trans rfl
                  have hcz18_4 : wc.cell? ⟨gb141, 4, none⟩ = some (.bool x7_1) := (blk_cell BK141.out 4).trans rfl
                  have hcz18_5 : wc.cell? ⟨gb141, 5, none⟩ = some (.bool ((rd_T33 l0 x8_1).f3)) := (blk_cell BK141.out 5).trans rfl
                  have hfz18_0 := blk_frozen BK141.out 0
                  have hfz18_1 := blk_frozen BK141.out 1
                  have hfz18_2 := blk_frozen BK141.out 2
                  have hfz18_3 := blk_frozen BK141.out 3
                  have hfz18_4 := blk_frozen BK141.out 4
                  have hfz18_5 := blk_frozen BK141.out 5
                  go_wp2
                  go_meet
                  case rel => exact ⟨_, (x6_1), H', ⟨by have := HK1.out; have := HJ3.out; first | omega | exact Nat.le_refl _⟩, ⟨by (with_reducible repeat (first | apply Kd.R_alloc | apply Kd.R_drewN | apply Kd.R_drew)); exact Kd.R_mono (Kd.R_far (p := ⟨gb141, 3, none⟩) (Kd.R_mono HO_5.out (fun k_ hk => (⟨hk, hk⟩ : _ ∧ k_ ≠ gb141))) (fun _ hk => hk.2) (.string x6_1)) (fun _ hk => hk.1)⟩, ⟨by (with_reducible repeat (first | refine blk_drewN ?_ _ | refine blk_drew ?_ | refine blk_alloc ?_ _)); refine blk_put (cs := #[.int .i64 (wrap64 ((wrap64 (10 * x8_1)) - (wrap64 (Int.tmod ((rd_T33 l0 x8_1).f2) 40)))), .int .i64 (wrap64 ((wrap64 (10 * x8_1)) + (wrap64 (Int.tmod ((rd_T33 l0 x8_1).f2) 30)))), .int .i64 (wrap64 (1 + (wrap64 (Int.tmod ((rd_T33 l0 x8_1).f0) 3)))), .string (⟨#[]⟩ : ByteArray), .bool x7_1, .bool ((rd_T33 l0 x8_1).f3)]) ?_ 3 _ rfl; (with_reducible repeat (first | refine blk_drewN ?_ _ | refine blk_drew ?_ | refine blk_alloc ?_ _)); exact BK141.out⟩, ⟨by repeat (first | (with_reducible first | exact HB.out | apply below_alloc | apply pw_below_drewN | apply below_drew1 | refine below_set ?_ GE141.out) | exact HB.out)⟩⟩
                · replace c17 := Bool.eq_false_iff.mpr c17
                  subst c17
                  have H1 : (lamplighterlaw22_done.j2 kj3 l0 x5_1 x6_1 x7_1 x8_1 (wrap64 ((wrap64 (10 * x8_1)) - (wrap64 (Int.tmod ((rd_T33 l0 x8_1).f2) 40)))) (wrap64 ((wrap64 (10 * x8_1)) + (wrap64 (Int.tmod ((rd_T33 l0 x8_1).f2) 30)))) (wrap64 (1 + (wrap64 (Int.tmod ((rd_T33 l0 x8_1).f0) 3)))) (⟨#[]⟩ : ByteArray) x7_1 ((rd_T33 l0 x8_1).f3)) = some (r1, r2, r3) := by rw [if_neg (show ¬ (false = true) by decide)] at H; exact H
                  clear H
                  have H := H1
                  clear H1
                  have H' := Aside0.mk H
                  clear H
                  go_wp2
                  go_meet
                  case rel => exact ⟨_, ((⟨#[]⟩ : ByteArray)), H', ⟨by have := HK1.out; have := HJ3.out; first | omega | exact Nat.le_refl _⟩, ⟨by (with_reducible repeat (first | apply Kd.R_alloc | apply Kd.R_drewN | apply Kd.R_drew)); exact HO_5.out⟩, ⟨by (with_reducible repeat (first | refine blk_drewN ?_ _ | refine blk_drew ?_ | refine blk_alloc ?_ _)); exact BK141.out⟩, ⟨by repeat (first | (with_reducible first | exact HB.out | apply below_alloc | apply pw_below_drewN | apply below_drew1 | refine below_set ?_ GE141.out) | exact HB.out)⟩⟩
              case rest =>
                clear HC16
                try clear c1
                try clear p1
                try clear q1
                try clear hx1
                try clear c2
                try clear c2b0
                try clear p2
                try clear c3
                try clear c3b0
                try clear p6
                try clear c13
                try clear c13b0
                try clear c13b1
                try clear p13
                try clear q13
                try clear hx13
                try clear p14
                try clear q14
                try clear hx14
                try clear c16
                try clear c17
                try clear hcz14_0
                try clear hcz14_1
                try clear hcz14_2
                try clear hcz14_3
                try clear hcz14_4
                try clear hcz14_5
                try clear hcz15_0
                try clear hcz15_1
                try clear hcz15_2
                try clear hcz15_3
                try clear hcz15_4
                try clear hcz15_5
                try clear hcz18_0
                try clear hcz18_1
                try clear hcz18_2
                try clear hcz18_3
                try clear hcz18_4
                try clear hcz18_5
                try clear hfz14_0
                try clear hfz14_1
                try clear hfz14_2
                try clear hfz14_3
                try clear hfz14_4
                try clear hfz14_5
                try clear hfz15_0
                try clear hfz15_1
                try clear hfz15_2
                try clear hfz15_3
                try clear hfz15_4
                try clear hfz15_5
                try clear hfz18_0
                try clear hfz18_1
                try clear hfz18_2
                try clear hfz18_3
                try clear hfz18_4
                try clear hfz18_5
                try clear hx137_0
                try clear hx137_1
                try clear hx137_2
                try clear hx137_3
                try clear hx138_0
                try clear hx138_1
                try clear hx138_2
                try clear hx138_3
                try clear hx139_0
                try clear hx139_1
                try clear hx139_2
                try clear hx139_3
                try clear hx140_0
                try clear hx140_1
                try clear hx140_2
                try clear hx140_3
                try clear p1
                try clear p13
                try clear p137
                try clear p138
                try clear p139
                try clear p14
                try clear p140
                try clear p2
                try clear p6
                try clear q1
                try clear q13
                try clear q137
                try clear q138
                try clear q139
                try clear q14
                try clear q140
                obtain ⟨kq, x142003_15, HA, HJ15, HO_5, BK141, HB⟩ := hcut
                cases kq with
                | zero => exact absurd HA.out (by simp [lamplighterlaw22_done.j2])
                | succ kj15 =>
                  have H := HA.out
                  clear HA
                  simp only [lamplighterlaw22_done.j2] at H
                  by_cases c19 : (wrap64 (1 + (wrap64 (Int.tmod ((rd_T33 l0 x8_1).f0) 3)))) = 1
                  · rw [if_pos c19] at H
                    have c19b0 : ((wrap64 (1 + (wrap64 (Int.tmod ((rd_T33 l0 x8_1).f0) 3)))) == 1) = true := beq_iff_eq.mpr c19
                    have c19b1 : ((wrap64 (1 + (wrap64 (Int.tmod ((rd_T33 l0 x8_1).f0) 3)))) != 1) = false := bne_eq_false_iff_eq.mpr c19
                    clear c19
                    by_cases c20 : 0 ≤ x8_1
                    · rw [if_pos c20] at H
                      have c20b0 : decide (0 ≤ x8_1) = true := decide_eq_true c20
                      clear c20
                      by_cases c21 : x8_1 < (l0.length : Int)
                      · rw [if_pos c21] at H
                        have c21b0 : decide (x8_1 < (l0.length : Int)) = true := decide_eq_true c21
                        clear c21
                        by_cases c22 : (wrap64 (1 + (wrap64 (Int.tmod ((rd_T33 l0 x8_1).f0) 3)))) = 3
                        · rw [if_pos c22] at H
                          have c22b0 : ((wrap64 (1 + (wrap64 (Int.tmod ((rd_T33 l0 x8_1).f0) 3)))) == 3) = true := beq_iff_eq.mpr c22
                          have c22b1 : ((wrap64 (1 + (wrap64 (Int.tmod ((rd_T33 l0 x8_1).f0) 3)))) != 3) = false := bne_eq_false_iff_eq.mpr c22
                          clear c22
                          by_cases c23 : x5_1.length < 2932031007402
                          · rw [if_pos c23] at H
                            have LMc23 := Aside0.mk c23
                            clear c23
                            obtain ⟨y143, hy143⟩ : ∃ y_ : List (S37), y_ = (x5_1 ++ [(⟨(wrap64 ((wrap64 (10 * x8_1)) - (wrap64 (Int.tmod ((rd_T33 l0 x8_1).f2) 40)))), (wrap64 ((wrap64 (10 * x8_1)) + (wrap64 (Int.tmod ((rd_T33 l0 x8_1).f2) 30)))), (wrap64 (1 + (wrap64 (Int.tmod ((rd_T33 l0 x8_1).f0) 3)))), (rd_T33 l0 x8_1).f1, x7_1, ((rd_T33 l0 x8_1).f3)⟩ : S37)]) := ⟨_, rfl⟩
                            replace H : (lamplighterlaw22_done.l0 kj15 l0 y143 (⟨#[]⟩ : ByteArray) false (wrap64 (x8_1 + 1))) = some (r1, r2, r3) := by first | (rw [hy143]; with_reducible exact H) | (have H2_ := (Option.bind_some _ _).symm.trans H; rw [hy143]; with_reducible exact H2_) | (have H2_ := (Option.bind_some _ _).symm.trans H; with_reducible exact H2_) | with_reducible exact H | (rw [hy143]; exact H) | exact H
                            have Ny143 := Aside0.mk hy143
                            clear hy143
                            have H' := Aside0.mk H
                            clear H
                            have hcz24_0 : wc.cell? ⟨gb141, 0, none⟩ = some (.int .i64 (wrap64 ((wrap64 (10 * x8_1)) - (wrap64 (Int.tmod ((rd_T33 l0 x8_1).f2) 40))))) := (blk_cell BK141.out 0).trans rfl
                            have hcz24_1 : wc.cell? ⟨gb141, 1, none⟩ = some (.int .i64 (wrap64 ((wrap64 (10 * x8_1)) + (wrap64 (Int.tmod ((rd_T33 l0 x8_1).f2) 30))))) := (blk_cell BK141.out 1).trans rfl
                            have hcz24_2 : wc.cell? ⟨gb141, 2, none⟩ = some (.int .i64 (wrap64 (1 + (wrap64 (Int.tmod ((rd_T33 l0 x8_1).f0) 3))))) := (blk_cell BK141.out 2).trans rfl
                            have hcz24_3 : wc.cell? ⟨gb141, 3, none⟩ = some (.string x142003_15) := (blk_cell BK141.out 3).trans rfl
                            have hcz24_4 : wc.cell? ⟨gb141, 4, none⟩ = some (.bool x7_1) := (blk_cell BK141.out 4).trans rfl
                            have hcz24_5 : wc.cell? ⟨gb141, 5, none⟩ = some (.bool ((rd_T33 l0 x8_1).f3)) := (blk_cell BK141.out 5).trans rfl
                            have hfz24_0 := blk_frozen BK141.out 0
                            have hfz24_1 := blk_frozen BK141.out 1
                            have hfz24_2 := blk_frozen BK141.out 2
                            have hfz24_3 := blk_frozen BK141.out 3
                            have hfz24_4 := blk_frozen BK141.out 4
                            have hfz24_5 := blk_frozen BK141.out 5
                            have p142 : 0 ≤ (x8_1 : Int) := of_decide_eq_true (by first | (with_reducible assumption) | assumption)
                            have q142 : x8_1 < (l0.length : Int) := of_decide_eq_true (by first | (with_reducible assumption) | assumption)
                            obtain ⟨ad142, e142, hx142_0, hx142_1, hx142_2, hx142_3⟩ := at_T33 HR0.out x8_1 p142 q142
                            obtain rfl : ad137 = ad142 := (by injection e142)
                            replace hx142_0 := (HB.out.cell (World.block_lt_of_cell? w _ hx142_0)).trans hx142_0
                            replace hx142_1 := (HB.out.cell (World.block_lt_of_cell? w _ hx142_1)).trans hx142_1
                            replace hx142_2 := (HB.out.cell (World.block_lt_of_cell? w _ hx142_2)).trans hx142_2
                            replace hx142_3 := (HB.out.cell (World.block_lt_of_cell? w _ hx142_3)).trans hx142_3
                            replace p142 := eq_true p142
                            replace q142 := eq_true q142
                            go_wp2_with (first | ((with_reducible refine gate_builtin (b := .append) (xs := #[.tmp 73, .tmp 75]) rfl ?_); at_builtin; refine Kd.R_append k37 (w0 := w) w.heap.size rfl (.tmp 73) (.tmp 75) 22 37 (.agg #[(.int .i64 0), (.int .i64 0), (.int .i64 0), (.string ⟨#[]⟩), (.bool false), (.bool false)]) 48 rfl Try.underlying22 info37 rfl (by decide) (by omega) u5 x5_1 (⟨(wrap64 ((wrap64 (10 * x8_1)) - (wrap64 (Int.tmod ((rd_T33 l0 x8_1).f2) 40)))), (wrap64 ((wrap64 (10 * x8_1)) + (wrap64 (Int.tmod ((rd_T33 l0 x8_1).f2) 30)))), (wrap64 (1 + (wrap64 (Int.tmod ((rd_T33 l0 x8_1).f0) 3)))), (rd_T33 l0 x8_1).f1, x7_1, ((rd_T33 l0 x8_1).f3)⟩ : S37) [.int .i64 (wrap64 ((wrap64 (10 * x8_1)) - (wrap64 (Int.tmod ((rd_T33 l0 x8_1).f2) 40)))), .int .i64 (wrap64 ((wrap64 (10 * x8_1)) + (wrap64 (Int.tmod ((rd_T33 l0 x8_1).f2) 30)))), .int .i64 (wrap64 (1 + (wrap64 (Int.tmod ((rd_T33 l0 x8_1).f0) 3)))), .string ((rd_T33 l0 x8_1).f1), .bool x7_1, .bool ((rd_T33 l0 x8_1).f3)] (fun k_ => k_ ≠ gb141) (fun _ => False) rfl (by first | (go_simp; done) | (go_simp; rfl)) ?aP (fun _ hk => hk.elim) ?aF ?aO ?aB ?aS ?aL ?_; (case aP => exact k37_mkM _ _ _ (⟨(wrap64 ((wrap64 (10 * x8_1)) - (wrap64 (Int.tmod ((rd_T33 l0 x8_1).f2) 40)))), (wrap64 ((wrap64 (10 * x8_1)) + (wrap64 (Int.tmod ((rd_T33 l0 x8_1).f2) 30)))), (wrap64 (1 + (wrap64 (Int.tmod ((rd_T33 l0 x8_1).f0) 3)))), (rd_T33 l0 x8_1).f1, x7_1, ((rd_T33 l0 x8_1).f3)⟩ : S37)); (case aB => exact (by repeat (first | (with_reducible first | exact HB.out | apply below_alloc | apply pw_below_drewN | apply below_drew1 | refine below_set ?_ GE141.out) | exact HB.out))); (case aF => exact (fun k_ hk => Kd.freshB (g := gb141) (o := .cells #[.int .i64 (wrap64 ((wrap64 (10 * x8_1)) - (wrap64 (Int.tmod ((rd_T33 l0 x8_1).f2) 40)))), .int .i64 (wrap64 ((wrap64 (10 * x8_1)) + (wrap64 (Int.tmod ((rd_T33 l0 x8_1).f2) 30)))), .int .i64 (wrap64 (1 + (wrap64 (Int.tmod ((rd_T33 l0 x8_1).f0) 3)))), .string ((rd_T33 l0 x8_1).f1), .bool x7_1, .bool ((rd_T33 l0 x8_1).f3)] 37 (0, 0)) (by (with_reducible repeat (first | refine blk_drewN ?_ _ | refine blk_drew ?_ | refine blk_alloc ?_ _)); refine blk_put (cs := #[.int .i64 (wrap64 ((wrap64 (10 * x8_1)) - (wrap64 (Int.tmod ((rd_T33 l0 x8_1).f2) 40)))), .int .i64 (wrap64 ((wrap64 (10 * x8_1)) + (wrap64 (Int.tmod ((rd_T33 l0 x8_1).f2) 30)))), .int .i64 (wrap64 (1 + (wrap64 (Int.tmod ((rd_T33 l0 x8_1).f0) 3)))), .string x142003_15, .bool x7_1, .bool ((rd_T33 l0 x8_1).f3)]) ?_ 3 _ rfl; (with_reducible repeat (first | refine blk_drewN ?_ _ | refine blk_drew ?_ | refine blk_alloc ?_ _)); exact BK141.out) k_ hk)); (case aO => exact (by (with_reducible repeat (first | apply Kd.R_alloc | apply Kd.R_drewN | apply Kd.R_drew)); exact Kd.R_mono (Kd.R_far (p := ⟨gb141, 3, none⟩) (Kd.R_mono HO_5.out (fun k_ hk => (⟨hk, hk⟩ : _ ∧ k_ ≠ gb141))) (fun _ hk => hk.2) (.string ((rd_T33 l0 x8_1).f1))) (fun _ hk => hk.1))); (case aS => exact (below_size (by repeat (first | (with_reducible first | exact HB.out | apply below_alloc | apply pw_below_drewN | apply below_drew1 | refine below_set ?_ GE141.out) | exact HB.out)))); (case aL => have := LMc23.out; omega); intro v144 w25 ho hb hg hat; rw [← Ny143.out] at ho; have n0_ := Aside0.mk (blk_grown (g := gb141) (o := .cells #[.int .i64 (wrap64 ((wrap64 (10 * x8_1)) - (wrap64 (Int.tmod ((rd_T33 l0 x8_1).f2) 40)))), .int .i64 (wrap64 ((wrap64 (10 * x8_1)) + (wrap64 (Int.tmod ((rd_T33 l0 x8_1).f2) 30)))), .int .i64 (wrap64 (1 + (wrap64 (Int.tmod ((rd_T33 l0 x8_1).f0) 3)))), .string ((rd_T33 l0 x8_1).f1), .bool x7_1, .bool ((rd_T33 l0 x8_1).f3)] 37 (0, 0)) (by (with_reducible repeat (first | refine blk_drewN ?_ _ | refine blk_drew ?_ | refine blk_alloc ?_ _)); refine blk_put (cs := #[.int .i64 (wrap64 ((wrap64 (10 * x8_1)) - (wrap64 (Int.tmod ((rd_T33 l0 x8_1).f2) 40)))), .int .i64 (wrap64 ((wrap64 (10 * x8_1)) + (wrap64 (Int.tmod ((rd_T33 l0 x8_1).f2) 30)))), .int .i64 (wrap64 (1 + (wrap64 (Int.tmod ((rd_T33 l0 x8_1).f0) 3)))), .string x142003_15, .bool x7_1, .bool ((rd_T33 l0 x8_1).f3)]) ?_ 3 _ rfl; (with_reducible repeat (first | refine blk_drewN ?_ _ | refine blk_drew ?_ | refine blk_alloc ?_ _)); exact BK141.out) hg (Kd.R_away HO_5.out (fun _ hk => hk))); have n1_ := Aside0.mk (hb); have n2_ := Aside0.mk (ho); clear BK141; clear HB; clear HO_5; have BK141 := n0_; have HB := n1_; have HO145 := n2_; clear n0_ n1_ n2_; clear ho hb hg hat))
                            go_roundg kj15
                            case measure => have := HK1.out; have := HJ3.out; have := HJ15.out; omega
                            case rel => exact ⟨(y143), ((⟨#[]⟩ : ByteArray)), (false), (wrap64 (x8_1 + 1)), (by first | rfl | (simp; done) | (simp [*]; done)), (by first | rfl | (simp; done) | (simp [*]; done)), (by first | rfl | (simp; done) | (simp [*]; done)), H', ⟨by have := HK1.out; have := HJ3.out; have := HJ15.out; omega⟩, ⟨by (with_reducible repeat (first | apply Kd.R_alloc | apply Kd.R_drewN | apply Kd.R_drew)); exact Kd.R_mono HO145.out (fun _ hk => trivial)⟩, ⟨by repeat (first | (with_reducible first | exact HB.out | apply below_alloc | apply pw_below_drewN | apply below_drew1 | refine below_set ?_ GE141.out) | exact HB.out)⟩⟩
                          · rw [if_neg c23] at H
                            exact absurd H (by simp)
                        · rw [if_neg c22] at H
                          have c22b0 : ((wrap64 (1 + (wrap64 (Int.tmod ((rd_T33 l0 x8_1).f0) 3)))) == 3) = false := beq_eq_false_iff_ne.mpr c22
                          have c22b1 : ((wrap64 (1 + (wrap64 (Int.tmod ((rd_T33 l0 x8_1).f0) 3)))) != 3) = true := bne_iff_ne.mpr c22
                          by_cases c26 : x5_1.length < 2932031007402
                          · rw [if_pos c26] at H
                            have LMc26 := Aside0.mk c26
                            clear c26
                            obtain ⟨y146, hy146⟩ : ∃ y_ : List (S37), y_ = (x5_1 ++ [(⟨(wrap64 ((wrap64 (10 * x8_1)) - (wrap64 (Int.tmod ((rd_T33 l0 x8_1).f2) 40)))), (wrap64 ((wrap64 (10 * x8_1)) + (wrap64 (Int.tmod ((rd_T33 l0 x8_1).f2) 30)))), (wrap64 (1 + (wrap64 (Int.tmod ((rd_T33 l0 x8_1).f0) 3)))), (rd_T33 l0 x8_1).f1, x7_1, ((rd_T33 l0 x8_1).f3)⟩ : S37)]) := ⟨_, rfl⟩
                            replace H : (lamplighterlaw22_done.l0 kj15 l0 y146 ((rd_T33 l0 x8_1).f1) true (wrap64 (x8_1 + 1))) = some (r1, r2, r3) := by first | (rw [hy146]; with_reducible exact H) | (have H2_ := (Option.bind_some _ _).symm.trans H; rw [hy146]; with_reducible exact H2_) | (have H2_ := (Option.bind_some _ _).symm.trans H; with_reducible exact H2_) | with_reducible exact H | (rw [hy146]; exact H) | exact H
                            have Ny146 := Aside0.mk hy146
                            clear hy146
                            have H' := Aside0.mk H
                            clear H
                            have hcz27_0 : wc.cell? ⟨gb141, 0, none⟩ = some (.int .i64 (wrap64 ((wrap64 (10 * x8_1)) - (wrap64 (Int.tmod ((rd_T33 l0 x8_1).f2) 40))))) := (blk_cell BK141.out 0).trans rfl
                            have hcz27_1 : wc.cell? ⟨gb141, 1, none⟩ = some (.int .i64 (wrap64 ((wrap64 (10 * x8_1)) + (wrap64 (Int.tmod ((rd_T33 l0 x8_1).f2) 30))))) := (blk_cell BK141.out 1).trans rfl
                            have hcz27_2 : wc.cell? ⟨gb141, 2, none⟩ = some (.int .i64 (wrap64 (1 + (wrap64 (Int.tmod ((rd_T33 l0 x8_1).f0) 3))))) := (blk_cell BK141.out 2).trans rfl
                            have hcz27_3 : wc.cell? ⟨gb141, 3, none⟩ = some (.string x142003_15) := (blk_cell BK141.out 3).trans rfl
                            have hcz27_4 : wc.cell? ⟨gb141, 4, none⟩ = some (.bool x7_1) := (blk_cell BK141.out 4).trans rfl
                            have hcz27_5 : wc.cell? ⟨gb141, 5, none⟩ = some (.bool ((rd_T33 l0 x8_1).f3)) := (blk_cell BK141.out 5).trans rfl
                            have hfz27_0 := blk_frozen BK141.out 0
                            have hfz27_1 := blk_frozen BK141.out 1
                            have hfz27_2 := blk_frozen BK141.out 2
                            have hfz27_3 := blk_frozen BK141.out 3
                            have hfz27_4 := blk_frozen BK141.out 4
                            have hfz27_5 := blk_frozen BK141.out 5
                            have p142 : 0 ≤ (x8_1 : Int) := of_decide_eq_true (by first | (with_reducible assumption) | assumption)
                            have q142 : x8_1 < (l0.length : Int) := of_decide_eq_true (by first | (with_reducible assumption) | assumption)
                            obtain ⟨ad142, e142, hx142_0, hx142_1, hx142_2, hx142_3⟩ := at_T33 HR0.out x8_1 p142 q142
                            obtain rfl : ad137 = ad142 := (by injection e142)
                            replace hx142_0 := (HB.out.cell (World.block_lt_of_cell? w _ hx142_0)).trans hx142_0
                            replace hx142_1 := (HB.out.cell (World.block_lt_of_cell? w _ hx142_1)).trans hx142_1
                            replace hx142_2 := (HB.out.cell (World.block_lt_of_cell? w _ hx142_2)).trans hx142_2
                            replace hx142_3 := (HB.out.cell (World.block_lt_of_cell? w _ hx142_3)).trans hx142_3
                            replace p142 := eq_true p142
                            replace q142 := eq_true q142
                            go_wp2_with (first | ((with_reducible refine gate_builtin (b := .append) (xs := #[.tmp 73, .tmp 75]) rfl ?_); at_builtin; refine Kd.R_append k37 (w0 := w) w.heap.size rfl (.tmp 73) (.tmp 75) 22 37 (.agg #[(.int .i64 0), (.int .i64 0), (.int .i64 0), (.string ⟨#[]⟩), (.bool false), (.bool false)]) 48 rfl Try.underlying22 info37 rfl (by decide) (by omega) u5 x5_1 (⟨(wrap64 ((wrap64 (10 * x8_1)) - (wrap64 (Int.tmod ((rd_T33 l0 x8_1).f2) 40)))), (wrap64 ((wrap64 (10 * x8_1)) + (wrap64 (Int.tmod ((rd_T33 l0 x8_1).f2) 30)))), (wrap64 (1 + (wrap64 (Int.tmod ((rd_T33 l0 x8_1).f0) 3)))), (rd_T33 l0 x8_1).f1, x7_1, ((rd_T33 l0 x8_1).f3)⟩ : S37) [.int .i64 (wrap64 ((wrap64 (10 * x8_1)) - (wrap64 (Int.tmod ((rd_T33 l0 x8_1).f2) 40)))), .int .i64 (wrap64 ((wrap64 (10 * x8_1)) + (wrap64 (Int.tmod ((rd_T33 l0 x8_1).f2) 30)))), .int .i64 (wrap64 (1 + (wrap64 (Int.tmod ((rd_T33 l0 x8_1).f0) 3)))), .string ((rd_T33 l0 x8_1).f1), .bool x7_1, .bool ((rd_T33 l0 x8_1).f3)] (fun k_ => k_ ≠ gb141) (fun _ => False) rfl (by first | (go_simp; done) | (go_simp; rfl)) ?aP (fun _ hk => hk.elim) ?aF ?aO ?aB ?aS ?aL ?_; (case aP => exact k37_mkM _ _ _ (⟨(wrap64 ((wrap64 (10 * x8_1)) - (wrap64 (Int.tmod ((rd_T33 l0 x8_1).f2) 40)))), (wrap64 ((wrap64 (10 * x8_1)) + (wrap64 (Int.tmod ((rd_T33 l0 x8_1).f2) 30)))), (wrap64 (1 + (wrap64 (Int.tmod ((rd_T33 l0 x8_1).f0) 3)))), (rd_T33 l0 x8_1).f1, x7_1, ((rd_T33 l0 x8_1).f3)⟩ : S37)); (case aB => exact (by repeat (first | (with_reducible first | exact HB.out | apply below_alloc | apply pw_below_drewN | apply below_drew1 | refine below_set ?_ GE141.out) | exact HB.out))); (case aF => exact (fun k_ hk => Kd.freshB (g := gb141) (o := .cells #[.int .i64 (wrap64 ((wrap64 (10 * x8_1)) - (wrap64 (Int.tmod ((rd_T33 l0 x8_1).f2) 40)))), .int .i64 (wrap64 ((wrap64 (10 * x8_1)) + (wrap64 (Int.tmod ((rd_T33 l0 x8_1).f2) 30)))), .int .i64 (wrap64 (1 + (wrap64 (Int.tmod ((rd_T33 l0 x8_1).f0) 3)))), .string ((rd_T33 l0 x8_1).f1), .bool x7_1, .bool ((rd_T33 l0 x8_1).f3)] 37 (0, 0)) (by (with_reducible repeat (first | refine blk_drewN ?_ _ | refine blk_drew ?_ | refine blk_alloc ?_ _)); refine blk_put (cs := #[.int .i64 (wrap64 ((wrap64 (10 * x8_1)) - (wrap64 (Int.tmod ((rd_T33 l0 x8_1).f2) 40)))), .int .i64 (wrap64 ((wrap64 (10 * x8_1)) + (wrap64 (Int.tmod ((rd_T33 l0 x8_1).f2) 30)))), .int .i64 (wrap64 (1 + (wrap64 (Int.tmod ((rd_T33 l0 x8_1).f0) 3)))), .string x142003_15, .bool x7_1, .bool ((rd_T33 l0 x8_1).f3)]) ?_ 3 _ rfl; (with_reducible repeat (first | refine blk_drewN ?_ _ | refine blk_drew ?_ | refine blk_alloc ?_ _)); exact BK141.out) k_ hk)); (case aO => exact (by (with_reducible repeat (first | apply Kd.R_alloc | apply Kd.R_drewN | apply Kd.R_drew)); exact Kd.R_mono (Kd.R_far (p := ⟨gb141, 3, none⟩) (Kd.R_mono HO_5.out (fun k_ hk => (⟨hk, hk⟩ : _ ∧ k_ ≠ gb141))) (fun _ hk => hk.2) (.string ((rd_T33 l0 x8_1).f1))) (fun _ hk => hk.1))); (case aS => exact (below_size (by repeat (first | (with_reducible first | exact HB.out | apply below_alloc | apply pw_below_drewN | apply below_drew1 | refine below_set ?_ GE141.out) | exact HB.out)))); (case aL => have := LMc26.out; omega); intro v147 w28 ho hb hg hat; rw [← Ny146.out] at ho; have n0_ := Aside0.mk (blk_grown (g := gb141) (o := .cells #[.int .i64 (wrap64 ((wrap64 (10 * x8_1)) - (wrap64 (Int.tmod ((rd_T33 l0 x8_1).f2) 40)))), .int .i64 (wrap64 ((wrap64 (10 * x8_1)) + (wrap64 (Int.tmod ((rd_T33 l0 x8_1).f2) 30)))), .int .i64 (wrap64 (1 + (wrap64 (Int.tmod ((rd_T33 l0 x8_1).f0) 3)))), .string ((rd_T33 l0 x8_1).f1), .bool x7_1, .bool ((rd_T33 l0 x8_1).f3)] 37 (0, 0)) (by (with_reducible repeat (first | refine blk_drewN ?_ _ | refine blk_drew ?_ | refine blk_alloc ?_ _)); refine blk_put (cs := #[.int .i64 (wrap64 ((wrap64 (10 * x8_1)) - (wrap64 (Int.tmod ((rd_T33 l0 x8_1).f2) 40)))), .int .i64 (wrap64 ((wrap64 (10 * x8_1)) + (wrap64 (Int.tmod ((rd_T33 l0 x8_1).f2) 30)))), .int .i64 (wrap64 (1 + (wrap64 (Int.tmod ((rd_T33 l0 x8_1).f0) 3)))), .string x142003_15, .bool x7_1, .bool ((rd_T33 l0 x8_1).f3)]) ?_ 3 _ rfl; (with_reducible repeat (first | refine blk_drewN ?_ _ | refine blk_drew ?_ | refine blk_alloc ?_ _)); exact BK141.out) hg (Kd.R_away HO_5.out (fun _ hk => hk))); have n1_ := Aside0.mk (hb); have n2_ := Aside0.mk (ho); clear BK141; clear HB; clear HO_5; have BK141 := n0_; have HB := n1_; have HO148 := n2_; clear n0_ n1_ n2_; clear ho hb hg hat))
                            go_roundg kj15
                            case measure => have := HK1.out; have := HJ3.out; have := HJ15.out; omega
                            case rel => exact ⟨(y146), ((rd_T33 l0 x8_1).f1), (true), (wrap64 (x8_1 + 1)), (by first | rfl | (simp; done) | (simp [*]; done)), (by first | rfl | (simp; done) | (simp [*]; done)), (by first | rfl | (simp; done) | (simp [*]; done)), H', ⟨by have := HK1.out; have := HJ3.out; have := HJ15.out; omega⟩, ⟨by (with_reducible repeat (first | apply Kd.R_alloc | apply Kd.R_drewN | apply Kd.R_drew)); exact Kd.R_mono HO148.out (fun _ hk => trivial)⟩, ⟨by repeat (first | (with_reducible first | exact HB.out | apply below_alloc | apply pw_below_drewN | apply below_drew1 | refine below_set ?_ GE141.out) | exact HB.out)⟩⟩
                          · rw [if_neg c26] at H
                            exact absurd H (by simp)
                      · rw [if_neg c21] at H
                        exact absurd H (by simp)
                    · rw [if_neg c20] at H
                      exact absurd H (by simp)
                  · rw [if_neg c19] at H
                    have c19b0 : ((wrap64 (1 + (wrap64 (Int.tmod ((rd_T33 l0 x8_1).f0) 3)))) == 1) = false := beq_eq_false_iff_ne.mpr c19
                    have c19b1 : ((wrap64 (1 + (wrap64 (Int.tmod ((rd_T33 l0 x8_1).f0) 3)))) != 1) = true := bne_iff_ne.mpr c19
                    by_cases c29 : (wrap64 (1 + (wrap64 (Int.tmod ((rd_T33 l0 x8_1).f0) 3)))) = 3
                    · rw [if_pos c29] at H
                      have c29b0 : ((wrap64 (1 + (wrap64 (Int.tmod ((rd_T33 l0 x8_1).f0) 3)))) == 3) = true := beq_iff_eq.mpr c29
                      have c29b1 : ((wrap64 (1 + (wrap64 (Int.tmod ((rd_T33 l0 x8_1).f0) 3)))) != 3) = false := bne_eq_false_iff_eq.mpr c29
                      clear c29
                      by_cases c30 : x5_1.length < 2932031007402
                      · rw [if_pos c30] at H
                        have LMc30 := Aside0.mk c30
                        clear c30
                        obtain ⟨y149, hy149⟩ : ∃ y_ : List (S37), y_ = (x5_1 ++ [(⟨(wrap64 ((wrap64 (10 * x8_1)) - (wrap64 (Int.tmod ((rd_T33 l0 x8_1).f2) 40)))), (wrap64 ((wrap64 (10 * x8_1)) + (wrap64 (Int.tmod ((rd_T33 l0 x8_1).f2) 30)))), (wrap64 (1 + (wrap64 (Int.tmod ((rd_T33 l0 x8_1).f0) 3)))), x142003_15, x7_1, ((rd_T33 l0 x8_1).f3)⟩ : S37)]) := ⟨_, rfl⟩
                        replace H : (lamplighterlaw22_done.l0 kj15 l0 y149 (⟨#[]⟩ : ByteArray) false (wrap64 (x8_1 + 1))) = some (r1, r2, r3) := by first | (rw [hy149]; with_reducible exact H) | (have H2_ := (Option.bind_some _ _).symm.trans H; rw [hy149]; with_reducible exact H2_) | (have H2_ := (Option.bind_some _ _).symm.trans H; with_reducible exact H2_) | with_reducible exact H | (rw [hy149]; exact H) | exact H
                        have Ny149 := Aside0.mk hy149
                        clear hy149
                        have H' := Aside0.mk H
                        clear H
                        have hcz31_0 : wc.cell? ⟨gb141, 0, none⟩ = some (.int .i64 (wrap64 ((wrap64 (10 * x8_1)) - (wrap64 (Int.tmod ((rd_T33 l0 x8_1).f2) 40))))) := (blk_cell BK141.out 0).trans rfl
                        have hcz31_1 : wc.cell? ⟨gb141, 1, none⟩ = some (.int .i64 (wrap64 ((wrap64 (10 * x8_1)) + (wrap64 (Int.tmod ((rd_T33 l0 x8_1).f2) 30))))) := (blk_cell BK141.out 1).trans rfl
                        have hcz31_2 : wc.cell? ⟨gb141, 2, none⟩ = some (.int .i64 (wrap64 (1 + (wrap64 (Int.tmod ((rd_T33 l0 x8_1).f0) 3))))) := (blk_cell BK141.out 2).trans rfl
                        have hcz31_3 : wc.cell? ⟨gb141, 3, none⟩ = some (.string x142003_15) := (blk_cell BK141.out 3).trans rfl
                        have hcz31_4 : wc.cell? ⟨gb141, 4, none⟩ = some (.bool x7_1) := (blk_cell BK141.out 4).trans rfl
                        have hcz31_5 : wc.cell? ⟨gb141, 5, none⟩ = some (.bool ((rd_T33 l0 x8_1).f3)) := (blk_cell BK141.out 5).trans rfl
                        have hfz31_0 := blk_frozen BK141.out 0
                        have hfz31_1 := blk_frozen BK141.out 1
                        have hfz31_2 := blk_frozen BK141.out 2
                        have hfz31_3 := blk_frozen BK141.out 3
                        have hfz31_4 := blk_frozen BK141.out 4
                        have hfz31_5 := blk_frozen BK141.out 5
                        go_wp2_with (first | ((with_reducible refine gate_builtin (b := .append) (xs := #[.tmp 73, .tmp 75]) rfl ?_); at_builtin; refine Kd.R_append k37 (w0 := w) w.heap.size rfl (.tmp 73) (.tmp 75) 22 37 (.agg #[(.int .i64 0), (.int .i64 0), (.int .i64 0), (.string ⟨#[]⟩), (.bool false), (.bool false)]) 48 rfl Try.underlying22 info37 rfl (by decide) (by omega) u5 x5_1 (⟨(wrap64 ((wrap64 (10 * x8_1)) - (wrap64 (Int.tmod ((rd_T33 l0 x8_1).f2) 40)))), (wrap64 ((wrap64 (10 * x8_1)) + (wrap64 (Int.tmod ((rd_T33 l0 x8_1).f2) 30)))), (wrap64 (1 + (wrap64 (Int.tmod ((rd_T33 l0 x8_1).f0) 3)))), x142003_15, x7_1, ((rd_T33 l0 x8_1).f3)⟩ : S37) [.int .i64 (wrap64 ((wrap64 (10 * x8_1)) - (wrap64 (Int.tmod ((rd_T33 l0 x8_1).f2) 40)))), .int .i64 (wrap64 ((wrap64 (10 * x8_1)) + (wrap64 (Int.tmod ((rd_T33 l0 x8_1).f2) 30)))), .int .i64 (wrap64 (1 + (wrap64 (Int.tmod ((rd_T33 l0 x8_1).f0) 3)))), .string x142003_15, .bool x7_1, .bool ((rd_T33 l0 x8_1).f3)] (fun k_ => k_ ≠ gb141) (fun _ => False) rfl rfl ?aP (fun _ hk => hk.elim) ?aF ?aO ?aB ?aS ?aL ?_; (case aP => exact k37_mkM _ _ _ (⟨(wrap64 ((wrap64 (10 * x8_1)) - (wrap64 (Int.tmod ((rd_T33 l0 x8_1).f2) 40)))), (wrap64 ((wrap64 (10 * x8_1)) + (wrap64 (Int.tmod ((rd_T33 l0 x8_1).f2) 30)))), (wrap64 (1 + (wrap64 (Int.tmod ((rd_T33 l0 x8_1).f0) 3)))), x142003_15, x7_1, ((rd_T33 l0 x8_1).f3)⟩ : S37)); (case aB => exact (by repeat (first | (with_reducible first | exact HB.out | apply below_alloc | apply pw_below_drewN | apply below_drew1 | refine below_set ?_ GE141.out) | exact HB.out))); (case aF => exact (fun k_ hk => Kd.freshB (g := gb141) (o := .cells #[.int .i64 (wrap64 ((wrap64 (10 * x8_1)) - (wrap64 (Int.tmod ((rd_T33 l0 x8_1).f2) 40)))), .int .i64 (wrap64 ((wrap64 (10 * x8_1)) + (wrap64 (Int.tmod ((rd_T33 l0 x8_1).f2) 30)))), .int .i64 (wrap64 (1 + (wrap64 (Int.tmod ((rd_T33 l0 x8_1).f0) 3)))), .string x142003_15, .bool x7_1, .bool ((rd_T33 l0 x8_1).f3)] 37 (0, 0)) (by (with_reducible repeat (first | refine blk_drewN ?_ _ | refine blk_drew ?_ | refine blk_alloc ?_ _)); exact BK141.out) k_ hk)); (case aO => exact (by (with_reducible repeat (first | apply Kd.R_alloc | apply Kd.R_drewN | apply Kd.R_drew)); exact HO_5.out)); (case aS => exact (below_size (by repeat (first | (with_reducible first | exact HB.out | apply below_alloc | apply pw_below_drewN | apply below_drew1 | refine below_set ?_ GE141.out) | exact HB.out)))); (case aL => have := LMc30.out; omega); intro v150 w32 ho hb hg hat; rw [← Ny149.out] at ho; have n0_ := Aside0.mk (blk_grown (g := gb141) (o := .cells #[.int .i64 (wrap64 ((wrap64 (10 * x8_1)) - (wrap64 (Int.tmod ((rd_T33 l0 x8_1).f2) 40)))), .int .i64 (wrap64 ((wrap64 (10 * x8_1)) + (wrap64 (Int.tmod ((rd_T33 l0 x8_1).f2) 30)))), .int .i64 (wrap64 (1 + (wrap64 (Int.tmod ((rd_T33 l0 x8_1).f0) 3)))), .string x142003_15, .bool x7_1, .bool ((rd_T33 l0 x8_1).f3)] 37 (0, 0)) (by (with_reducible repeat (first | refine blk_drewN ?_ _ | refine blk_drew ?_ | refine blk_alloc ?_ _)); exact BK141.out) hg (Kd.R_away HO_5.out (fun _ hk => hk))); have n1_ := Aside0.mk (hb); have n2_ := Aside0.mk (ho); clear BK141; clear HB; clear HO_5; have BK141 := n0_; have HB := n1_; have HO151 := n2_; clear n0_ n1_ n2_; clear ho hb hg hat))
                        go_roundg kj15
                        case measure => have := HK1.out; have := HJ3.out; have := HJ15.out; omega
                        case rel => exact ⟨(y149), ((⟨#[]⟩ : ByteArray)), (false), (wrap64 (x8_1 + 1)), (by first | rfl | (simp; done) | (simp [*]; done)), (by first | rfl | (simp; done) | (simp [*]; done)), (by first | rfl | (simp; done) | (simp [*]; done)), H', ⟨by have := HK1.out; have := HJ3.out; have := HJ15.out; omega⟩, ⟨by (with_reducible repeat (first | apply Kd.R_alloc | apply Kd.R_drewN | apply Kd.R_drew)); exact Kd.R_mono HO151.out (fun _ hk => trivial)⟩, ⟨by repeat (first | (with_reducible first | exact HB.out | apply below_alloc | apply pw_below_drewN | apply below_drew1 | refine below_set ?_ GE141.out) | exact HB.out)⟩⟩
                      · rw [if_neg c30] at H
                        exact absurd H (by simp)
                    · rw [if_neg c29] at H
                      have c29b0 : ((wrap64 (1 + (wrap64 (Int.tmod ((rd_T33 l0 x8_1).f0) 3)))) == 3) = false := beq_eq_false_iff_ne.mpr c29
                      have c29b1 : ((wrap64 (1 + (wrap64 (Int.tmod ((rd_T33 l0 x8_1).f0) 3)))) != 3) = true := bne_iff_ne.mpr c29
                      by_cases c33 : x5_1.length < 2932031007402
                      · rw [if_pos c33] at H
                        have LMc33 := Aside0.mk c33
                        clear c33
                        obtain ⟨y152, hy152⟩ : ∃ y_ : List (S37), y_ = (x5_1 ++ [(⟨(wrap64 ((wrap64 (10 * x8_1)) - (wrap64 (Int.tmod ((rd_T33 l0 x8_1).f2) 40)))), (wrap64 ((wrap64 (10 * x8_1)) + (wrap64 (Int.tmod ((rd_T33 l0 x8_1).f2) 30)))), (wrap64 (1 + (wrap64 (Int.tmod ((rd_T33 l0 x8_1).f0) 3)))), x142003_15, x7_1, ((rd_T33 l0 x8_1).f3)⟩ : S37)]) := ⟨_, rfl⟩
                        replace H : (lamplighterlaw22_done.l0 kj15 l0 y152 x6_1 x7_1 (wrap64 (x8_1 + 1))) = some (r1, r2, r3) := by first | (rw [hy152]; with_reducible exact H) | (have H2_ := (Option.bind_some _ _).symm.trans H; rw [hy152]; with_reducible exact H2_) | (have H2_ := (Option.bind_some _ _).symm.trans H; with_reducible exact H2_) | with_reducible exact H | (rw [hy152]; exact H) | exact H
                        have Ny152 := Aside0.mk hy152
                        clear hy152
                        have H' := Aside0.mk H
                        clear H
                        have hcz34_0 : wc.cell? ⟨gb141, 0, none⟩ = some (.int .i64 (wrap64 ((wrap64 (10 * x8_1)) - (wrap64 (Int.tmod ((rd_T33 l0 x8_1).f2) 40))))) := (blk_cell BK141.out 0).trans rfl
                        have hcz34_1 : wc.cell? ⟨gb141, 1, none⟩ = some (.int .i64 (wrap64 ((wrap64 (10 * x8_1)) + (wrap64 (Int.tmod ((rd_T33 l0 x8_1).f2) 30))))) := (blk_cell BK141.out 1).trans rfl
                        have hcz34_2 : wc.cell? ⟨gb141, 2, none⟩ = some (.int .i64 (wrap64 (1 + (wrap64 (Int.tmod ((rd_T33 l0 x8_1).f0) 3))))) := (blk_cell BK141.out 2).trans rfl
                        have hcz34_3 : wc.cell? ⟨gb141, 3, none⟩ = some (.string x142003_15) := (blk_cell BK141.out 3).trans rfl
                        have hcz34_4 : wc.cell? ⟨gb141, 4, none⟩ = some (.bool x7_1) := (blk_cell BK141.out 4).trans rfl
                        have hcz34_5 : wc.cell? ⟨gb141, 5, none⟩ = some (.bool ((rd_T33 l0 x8_1).f3)) := (blk_cell BK141.out 5).trans rfl
                        have hfz34_0 := blk_frozen BK141.out 0
                        have hfz34_1 := blk_frozen BK141.out 1
                        have hfz34_2 := blk_frozen BK141.out 2
                        have hfz34_3 := blk_frozen BK141.out 3
                        have hfz34_4 := blk_frozen BK141.out 4
                        have hfz34_5 := blk_frozen BK141.out 5
                        go_wp2_with (first | ((with_reducible refine gate_builtin (b := .append) (xs := #[.tmp 73, .tmp 75]) rfl ?_); at_builtin; refine Kd.R_append k37 (w0 := w) w.heap.size rfl (.tmp 73) (.tmp 75) 22 37 (.agg #[(.int .i64 0), (.int .i64 0), (.int .i64 0), (.string ⟨#[]⟩), (.bool false), (.bool false)]) 48 rfl Try.underlying22 info37 rfl (by decide) (by omega) u5 x5_1 (⟨(wrap64 ((wrap64 (10 * x8_1)) - (wrap64 (Int.tmod ((rd_T33 l0 x8_1).f2) 40)))), (wrap64 ((wrap64 (10 * x8_1)) + (wrap64 (Int.tmod ((rd_T33 l0 x8_1).f2) 30)))), (wrap64 (1 + (wrap64 (Int.tmod ((rd_T33 l0 x8_1).f0) 3)))), x142003_15, x7_1, ((rd_T33 l0 x8_1).f3)⟩ : S37) [.int .i64 (wrap64 ((wrap64 (10 * x8_1)) - (wrap64 (Int.tmod ((rd_T33 l0 x8_1).f2) 40)))), .int .i64 (wrap64 ((wrap64 (10 * x8_1)) + (wrap64 (Int.tmod ((rd_T33 l0 x8_1).f2) 30)))), .int .i64 (wrap64 (1 + (wrap64 (Int.tmod ((rd_T33 l0 x8_1).f0) 3)))), .string x142003_15, .bool x7_1, .bool ((rd_T33 l0 x8_1).f3)] (fun k_ => k_ ≠ gb141) (fun _ => False) rfl rfl ?aP (fun _ hk => hk.elim) ?aF ?aO ?aB ?aS ?aL ?_; (case aP => exact k37_mkM _ _ _ (⟨(wrap64 ((wrap64 (10 * x8_1)) - (wrap64 (Int.tmod ((rd_T33 l0 x8_1).f2) 40)))), (wrap64 ((wrap64 (10 * x8_1)) + (wrap64 (Int.tmod ((rd_T33 l0 x8_1).f2) 30)))), (wrap64 (1 + (wrap64 (Int.tmod ((rd_T33 l0 x8_1).f0) 3)))), x142003_15, x7_1, ((rd_T33 l0 x8_1).f3)⟩ : S37)); (case aB => exact (by repeat (first | (with_reducible first | exact HB.out | apply below_alloc | apply pw_below_drewN | apply below_drew1 | refine below_set ?_ GE141.out) | exact HB.out))); (case aF => exact (fun k_ hk => Kd.freshB (g := gb141) (o := .cells #[.int .i64 (wrap64 ((wrap64 (10 * x8_1)) - (wrap64 (Int.tmod ((rd_T33 l0 x8_1).f2) 40)))), .int .i64 (wrap64 ((wrap64 (10 * x8_1)) + (wrap64 (Int.tmod ((rd_T33 l0 x8_1).f2) 30)))), .int .i64 (wrap64 (1 + (wrap64 (Int.tmod ((rd_T33 l0 x8_1).f0) 3)))), .string x142003_15, .bool x7_1, .bool ((rd_T33 l0 x8_1).f3)] 37 (0, 0)) (by (with_reducible repeat (first | refine blk_drewN ?_ _ | refine blk_drew ?_ | refine blk_alloc ?_ _)); exact BK141.out) k_ hk)); (case aO => exact (by (with_reducible repeat (first | apply Kd.R_alloc | apply Kd.R_drewN | apply Kd.R_drew)); exact HO_5.out)); (case aS => exact (below_size (by repeat (first | (with_reducible first | exact HB.out | apply below_alloc | apply pw_below_drewN | apply below_drew1 | refine below_set ?_ GE141.out) | exact HB.out)))); (case aL => have := LMc33.out; omega); intro v153 w35 ho hb hg hat; rw [← Ny152.out] at ho; have n0_ := Aside0.mk (blk_grown (g := gb141) (o := .cells #[.int .i64 (wrap64 ((wrap64 (10 * x8_1)) - (wrap64 (Int.tmod ((rd_T33 l0 x8_1).f2) 40)))), .int .i64 (wrap64 ((wrap64 (10 * x8_1)) + (wrap64 (Int.tmod ((rd_T33 l0 x8_1).f2) 30)))), .int .i64 (wrap64 (1 + (wrap64 (Int.tmod ((rd_T33 l0 x8_1).f0) 3)))), .string x142003_15, .bool x7_1, .bool ((rd_T33 l0 x8_1).f3)] 37 (0, 0)) (by (with_reducible repeat (first | refine blk_drewN ?_ _ | refine blk_drew ?_ | refine blk_alloc ?_ _)); exact BK141.out) hg (Kd.R_away HO_5.out (fun _ hk => hk))); have n1_ := Aside0.mk (hb); have n2_ := Aside0.mk (ho); clear BK141; clear HB; clear HO_5; have BK141 := n0_; have HB := n1_; have HO154 := n2_; clear n0_ n1_ n2_; clear ho hb hg hat))
                        go_roundg kj15
                        case measure => have := HK1.out; have := HJ3.out; have := HJ15.out; omega
                        case rel => exact ⟨(y152), (x6_1), (x7_1), (wrap64 (x8_1 + 1)), (by first | rfl | (simp; done) | (simp [*]; done)), (by first | rfl | (simp; done) | (simp [*]; done)), (by first | rfl | (simp; done) | (simp [*]; done)), H', ⟨by have := HK1.out; have := HJ3.out; have := HJ15.out; omega⟩, ⟨by (with_reducible repeat (first | apply Kd.R_alloc | apply Kd.R_drewN | apply Kd.R_drew)); exact Kd.R_mono HO154.out (fun _ hk => trivial)⟩, ⟨by repeat (first | (with_reducible first | exact HB.out | apply below_alloc | apply pw_below_drewN | apply below_drew1 | refine below_set ?_ GE141.out) | exact HB.out)⟩⟩
                      · rw [if_neg c33] at H
                        exact absurd H (by simp)
        · rw [if_neg c3] at H
          exact absurd H (by simp)
      · rw [if_neg c2] at H
        have c2b0 : decide (x8_1 < (l0.length : Int)) = false := decide_eq_false c2
        clear c2
        simp only [Option.some.injEq, Prod.mk.injEq] at H
        obtain ⟨rfl, rfl, rfl⟩ := H
        go_wp2
        go_ret3
        exact ⟨_, by first | rfl | (simp [errW_none, errW_some] <;> rfl) | (simp [*, errW_none, errW_some] <;> rfl), by (with_reducible repeat (first | apply Kd.R_alloc | apply Kd.R_drewN | apply Kd.R_drew)); exact HO_5.out, by repeat (first | (with_reducible first | exact HB.out | apply below_alloc | apply pw_below_drewN | apply below_drew1) | exact HB.out)⟩

end
end Go.Proofs.Ytdblecmelmeibaa.PH
