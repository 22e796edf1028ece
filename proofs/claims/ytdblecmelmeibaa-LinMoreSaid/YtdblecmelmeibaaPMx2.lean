/- Written by this session's own program (hprint.py) with the help of the kit's print. Lean checks it. -/
import Derived.Test.YtdblecmelmeibaaPMx0
import Derived.Test.YtdblecmelmeibaaPMx1
import Derived.Test.YtdblecmelmeibaaGivenM
namespace Go.Proofs.Ytdblecmelmeibaa.PM
open Go.RowKit Go.Proofs.YtdblecmelmeibaaW.PrintWords Go.Proofs.YtdblecmelmeibaaW.PrintLast Go.Proofs.YtdblecmelmeibaaW.PrintMore
attribute [local go_sem] max2_int min2_int max_two min_two max_three min_three max_four min_four   -- for this text's walks alone
set_option linter.unusedVariables false
set_option linter.unusedSimpArgs false
noncomputable section

/-! ### lamplighterlaw22_LinMore: function 5 -/
mutual
def lamplighterlaw22_LinMore.j0 : Nat → ByteArray → Bool → List (S37) → ByteArray → Bool → Int → Int → Bool → Bool → Option (Bool)
  | 0, _, _, _, _, _, _, _, _, _ => none
  | k + 1, x0, x1, x2, x3, x4, x5, x6, x15, x48 => if x48 = true then (some x15) else (if (x2.length : Int) = 0 then (none) else (if 0 ≤ (Int.tmod (wrap64 (x5)) (x2.length : Int)) then (if (Int.tmod (wrap64 (x5)) (x2.length : Int)) < (x2.length : Int) then (if ((rd_T37 x2 (Int.tmod (wrap64 (x5)) (x2.length : Int))).f0) < (-1099511627776) then (lamplighterlaw22_LinMore.j1 k x0 x1 x2 x3 x4 x6 x15 (Int.tmod (wrap64 (x5)) (x2.length : Int)) true ((rd_T37 x2 (Int.tmod (wrap64 (x5)) (x2.length : Int))).f0) ((rd_T37 x2 (Int.tmod (wrap64 (x5)) (x2.length : Int))).f1) ((rd_T37 x2 (Int.tmod (wrap64 (x5)) (x2.length : Int))).f2) ((rd_T37 x2 (Int.tmod (wrap64 (x5)) (x2.length : Int))).f3) ((rd_T37 x2 (Int.tmod (wrap64 (x5)) (x2.length : Int))).f4) ((rd_T37 x2 (Int.tmod (wrap64 (x5)) (x2.length : Int))).f5)) else (if ((rd_T37 x2 (Int.tmod (wrap64 (x5)) (x2.length : Int))).f0) > 1099511627776 then (lamplighterlaw22_LinMore.j1 k x0 x1 x2 x3 x4 x6 x15 (Int.tmod (wrap64 (x5)) (x2.length : Int)) true ((rd_T37 x2 (Int.tmod (wrap64 (x5)) (x2.length : Int))).f0) ((rd_T37 x2 (Int.tmod (wrap64 (x5)) (x2.length : Int))).f1) ((rd_T37 x2 (Int.tmod (wrap64 (x5)) (x2.length : Int))).f2) ((rd_T37 x2 (Int.tmod (wrap64 (x5)) (x2.length : Int))).f3) ((rd_T37 x2 (Int.tmod (wrap64 (x5)) (x2.length : Int))).f4) ((rd_T37 x2 (Int.tmod (wrap64 (x5)) (x2.length : Int))).f5)) else (if ((rd_T37 x2 (Int.tmod (wrap64 (x5)) (x2.length : Int))).f1) < (-1099511627776) then (lamplighterlaw22_LinMore.j1 k x0 x1 x2 x3 x4 x6 x15 (Int.tmod (wrap64 (x5)) (x2.length : Int)) true ((rd_T37 x2 (Int.tmod (wrap64 (x5)) (x2.length : Int))).f0) ((rd_T37 x2 (Int.tmod (wrap64 (x5)) (x2.length : Int))).f1) ((rd_T37 x2 (Int.tmod (wrap64 (x5)) (x2.length : Int))).f2) ((rd_T37 x2 (Int.tmod (wrap64 (x5)) (x2.length : Int))).f3) ((rd_T37 x2 (Int.tmod (wrap64 (x5)) (x2.length : Int))).f4) ((rd_T37 x2 (Int.tmod (wrap64 (x5)) (x2.length : Int))).f5)) else (lamplighterlaw22_LinMore.j1 k x0 x1 x2 x3 x4 x6 x15 (Int.tmod (wrap64 (x5)) (x2.length : Int)) (decide (((rd_T37 x2 (Int.tmod (wrap64 (x5)) (x2.length : Int))).f1) > 1099511627776)) ((rd_T37 x2 (Int.tmod (wrap64 (x5)) (x2.length : Int))).f0) ((rd_T37 x2 (Int.tmod (wrap64 (x5)) (x2.length : Int))).f1) ((rd_T37 x2 (Int.tmod (wrap64 (x5)) (x2.length : Int))).f2) ((rd_T37 x2 (Int.tmod (wrap64 (x5)) (x2.length : Int))).f3) ((rd_T37 x2 (Int.tmod (wrap64 (x5)) (x2.length : Int))).f4) ((rd_T37 x2 (Int.tmod (wrap64 (x5)) (x2.length : Int))).f5))))) else (none)) else (none)))
def lamplighterlaw22_LinMore.j1 : Nat → ByteArray → Bool → List (S37) → ByteArray → Bool → Int → Bool → Int → Bool → Int → Int → Int → ByteArray → Bool → Bool → Option (Bool)
  | 0, _, _, _, _, _, _, _, _, _, _, _, _, _, _, _ => none
  | k + 1, x0, x1, x2, x3, x4, x6, x15, x16, x76, x107000, x107001, x107002, x107003, x107004, x107005 => if x76 = true then (some x15) else ((some (([] : List (S37)) : List (S37))).bind fun y107 => (if y107.length + x2.length < 2932031007402 then ((some (y107 ++ x2 : List (S37))).bind fun y110 => (if 0 ≤ x16 then (if x16 < (y110.length : Int) then ((some (y110.set (x16 : Int).toNat (⟨wrap64 (x107000 - (wrap64 (Int.tmod x6 50))), (rd_T37 y110 x16).f1, (rd_T37 y110 x16).f2, (rd_T37 y110 x16).f3, (rd_T37 y110 x16).f4, (rd_T37 y110 x16).f5⟩ : S37) : List (S37))).bind fun y113 => ((some (([] : List (S37)) : List (S37))).bind fun y115 => (if y115.length + x2.length < 2932031007402 then ((some (y115 ++ x2 : List (S37))).bind fun y118 => (if x16 < (y118.length : Int) then ((some (([] : List (S37)) : List (S37))).bind fun y122 => (if y122.length + x2.length < 2932031007402 then ((some (y122 ++ x2 : List (S37))).bind fun y125 => ((some (([(⟨x107000, x107001, wrap64 (Int.tmod x6 5), x0, false, false⟩ : S37)] : List (S37)) : List (S37))).bind fun y128 => (if y125.length + y128.length < 2932031007402 then (if x15 = true then ((lin_Check.f x0 x1 (y113.set (x16 : Int).toNat (⟨(rd_T37 y113 x16).f0, wrap64 (x107001 + (wrap64 (IntKind.u16.wrap (Int.tdiv x6 50)))), (rd_T37 y113 x16).f2, (rd_T37 y113 x16).f3, (rd_T37 y113 x16).f4, (rd_T37 y113 x16).f5⟩ : S37)) x3 x4).bind fun t134 => (if t134 = true then ((lin_Check.f x0 x1 (y118.set (x16 : Int).toNat (⟨(rd_T37 y118 x16).f0, (rd_T37 y118 x16).f1, (rd_T37 y118 x16).f2, (rd_T37 y118 x16).f3, (rd_T37 y118 x16).f4, false⟩ : S37)) x3 x4).bind fun t135 => (if t135 = true then ((lin_Check.f x0 x1 (y125 ++ y128) x3 x4).bind fun t136 => (some t136)) else (none))) else (none))) else (none)) else (none)))) else (none))) else (none))) else (none)))) else (none)) else (none))) else (none)))
end
def lamplighterlaw22_LinMore.f (k : Nat) (a0 : ByteArray) (a1 : Bool) (l2 : List (S37)) (a3 : ByteArray) (a4 : Bool) (a5 : Int) (a6 : Int) : Option (Bool) := (lamplighterlaw22_awake.f).bind fun t102 => (if (a0.size : Int) > 100 then (lamplighterlaw22_LinMore.j0 k a0 a1 l2 a3 a4 a5 a6 t102 true) else (if (a3.size : Int) > 100 then (lamplighterlaw22_LinMore.j0 k a0 a1 l2 a3 a4 a5 a6 t102 true) else ((lamplighterref22_Short.f k l2 12).bind fun t103 => (if t103 = true then (if (l2.length : Int) = 0 then (lamplighterlaw22_LinMore.j0 k a0 a1 l2 a3 a4 a5 a6 t102 true) else ((lin_Check.f a0 a1 l2 a3 a4).bind fun t104 => (lamplighterlaw22_LinMore.j0 k a0 a1 l2 a3 a4 a5 a6 t102 (!t104)))) else (lamplighterlaw22_LinMore.j0 k a0 a1 l2 a3 a4 a5 a6 t102 true)))))
theorem lamplighterlaw22_LinMore.mono_l : ∀ k, (∀ y0 y1 y2 y3 y4 y5 y6 y7 y8, LeO (lamplighterlaw22_LinMore.j0 k y0 y1 y2 y3 y4 y5 y6 y7 y8) (lamplighterlaw22_LinMore.j0 (k + 1) y0 y1 y2 y3 y4 y5 y6 y7 y8)) ∧ (∀ y0 y1 y2 y3 y4 y5 y6 y7 y8 y9 y10 y11 y12 y13 y14, LeO (lamplighterlaw22_LinMore.j1 k y0 y1 y2 y3 y4 y5 y6 y7 y8 y9 y10 y11 y12 y13 y14) (lamplighterlaw22_LinMore.j1 (k + 1) y0 y1 y2 y3 y4 y5 y6 y7 y8 y9 y10 y11 y12 y13 y14))
  | 0 => ⟨fun _ _ _ _ _ _ _ _ _ r h => by simp [lamplighterlaw22_LinMore.j0] at h, fun _ _ _ _ _ _ _ _ _ _ _ _ _ _ _ r h => by simp [lamplighterlaw22_LinMore.j1] at h⟩
  | k + 1 => by
    obtain ⟨ih0, ih1⟩ := lamplighterlaw22_LinMore.mono_l k
    refine ⟨?_, ?_⟩
    · intro y0 y1 y2 y3 y4 y5 y6 y7 y8
      unfold lamplighterlaw22_LinMore.j0
      repeat' first
      | (with_reducible exact ih0 _ _ _ _ _ _ _ _ _)
      | (with_reducible exact ih1 _ _ _ _ _ _ _ _ _ _ _ _ _ _ _)
      | (with_reducible exact lamplighterref22_Short.mono _ _ _)
      | (with_reducible exact LeO.refl _)
      | (with_reducible exact LeO.none _)
      | (with_reducible refine LeO.ite ?_ ?_)
      | (with_reducible refine LeO.bind ?_ (fun _ => ?_))
      | exact ih0 _ _ _ _ _ _ _ _ _
      | exact ih1 _ _ _ _ _ _ _ _ _ _ _ _ _ _ _
      | exact lamplighterref22_Short.mono _ _ _
      | exact LeO.none _
      | refine LeO.ite ?_ ?_
      | refine LeO.bind ?_ (fun _ => ?_)
    · intro y0 y1 y2 y3 y4 y5 y6 y7 y8 y9 y10 y11 y12 y13 y14
      unfold lamplighterlaw22_LinMore.j1
      repeat' first
      | (with_reducible exact ih0 _ _ _ _ _ _ _ _ _)
      | (with_reducible exact ih1 _ _ _ _ _ _ _ _ _ _ _ _ _ _ _)
      | (with_reducible exact lamplighterref22_Short.mono _ _ _)
      | (with_reducible exact LeO.refl _)
      | (with_reducible exact LeO.none _)
      | (with_reducible refine LeO.ite ?_ ?_)
      | (with_reducible refine LeO.bind ?_ (fun _ => ?_))
      | exact ih0 _ _ _ _ _ _ _ _ _
      | exact ih1 _ _ _ _ _ _ _ _ _ _ _ _ _ _ _
      | exact lamplighterref22_Short.mono _ _ _
      | exact LeO.none _
      | refine LeO.ite ?_ ?_
      | refine LeO.bind ?_ (fun _ => ?_)
theorem lamplighterlaw22_LinMore.mono : ∀ a0 a1 a2 a3 a4 a5 a6 k, LeO (lamplighterlaw22_LinMore.f k a0 a1 a2 a3 a4 a5 a6) (lamplighterlaw22_LinMore.f (k + 1) a0 a1 a2 a3 a4 a5 a6) := by
  intro a0 a1 a2 a3 a4 a5 a6 k
  obtain ⟨ih0, ih1⟩ := lamplighterlaw22_LinMore.mono_l k
  unfold lamplighterlaw22_LinMore.f
  repeat' first
      | (with_reducible exact ih0 _ _ _ _ _ _ _ _ _)
      | (with_reducible exact ih1 _ _ _ _ _ _ _ _ _ _ _ _ _ _ _)
      | (with_reducible exact lamplighterref22_Short.mono _ _ _)
      | (with_reducible exact LeO.refl _)
      | (with_reducible exact LeO.none _)
      | (with_reducible refine LeO.ite ?_ ?_)
      | (with_reducible refine LeO.bind ?_ (fun _ => ?_))
      | exact ih0 _ _ _ _ _ _ _ _ _
      | exact ih1 _ _ _ _ _ _ _ _ _ _ _ _ _ _ _
      | exact lamplighterref22_Short.mono _ _ _
      | exact LeO.none _
      | refine LeO.ite ?_ ?_
      | refine LeO.bind ?_ (fun _ => ?_)
def lamplighterlaw22_LinMore.T13 : Bool × List (List Nat × List Nat) := (true, [([], []), ([], []), ([0, 1], [0, 1]), ([], []), ([3], [3]), ([], []), ([5], [5]), ([], []), ([7], [7]), ([8], [8]), ([], []), ([4, 6, 9, 10], [4, 6, 9, 10]), ([11], [11]), ([2, 12, 2], [2, 12]), ([13, 13, 0, 1, 2, 3, 4, 5, 6, 7, 8, 9, 10, 11, 12, 13], [13])])
def lamplighterlaw22_LinMore.B13 : List Nat := [0, 0, 3, 0, 8, 0, 32, 0, 128, 384, 0, 2040, 4088, 8191, 16383]
theorem lamplighterlaw22_LinMore.tab13 : rtab .any (opsOf Try.f5 13) = lamplighterlaw22_LinMore.T13 := by kernel_rfl
theorem lamplighterlaw22_LinMore.bits13 : waitsOk lamplighterlaw22_LinMore.T13.2 lamplighterlaw22_LinMore.B13 = true := by kernel_rfl
set_option maxHeartbeats 8000000 in
set_option maxRecDepth 100000 in
theorem lamplighterlaw22_LinMore.calls (k : Nat) (a0 : ByteArray) (a1 : Bool) (A2 : Option Addr) (c2 : Nat) (l2 : List (S37)) (a3 : ByteArray) (a4 : Bool) (a5 : Int) (a6 : Int) (r : Bool) (w : World) (hr2 : Kd.C k37 w A2 l2.length l2) (hc2 : l2.length ≤ c2) (h : lamplighterlaw22_LinMore.f k a0 a1 l2 a3 a4 a5 a6 = some r) :
    Calls Try.prog 5 #[.string a0, .bool a1, .slice A2 l2.length c2, .string a3, .bool a4, .int .u8 a5, .int .u16 a6] w fun e w' => e = .returned (.bool r) ∧ Below w.heap.size w w' := by
  have hu37 := Try.underlying37
  have HR2 := Aside0.mk hr2
  have HC2 := Aside0.mk hc2
  clear hr2 hc2
  have HB := Aside0.mk (Below.refl w.heap.size w)
  have H : ((lamplighterlaw22_awake.f).bind fun t102 => (if (a0.size : Int) > 100 then (lamplighterlaw22_LinMore.j0 k a0 a1 l2 a3 a4 a5 a6 t102 true) else (if (a3.size : Int) > 100 then (lamplighterlaw22_LinMore.j0 k a0 a1 l2 a3 a4 a5 a6 t102 true) else ((lamplighterref22_Short.f k l2 12).bind fun t103 => (if t103 = true then (if (l2.length : Int) = 0 then (lamplighterlaw22_LinMore.j0 k a0 a1 l2 a3 a4 a5 a6 t102 true) else ((lin_Check.f a0 a1 l2 a3 a4).bind fun t104 => (lamplighterlaw22_LinMore.j0 k a0 a1 l2 a3 a4 a5 a6 t102 (!t104)))) else (lamplighterlaw22_LinMore.j0 k a0 a1 l2 a3 a4 a5 a6 t102 true)))))) = some r := h
  clear h
  replace H := Option.bind_eq_some_iff.mp H
  obtain ⟨t102, A80, H⟩ := H
  replace H : (if (a0.size : Int) > 100 then (lamplighterlaw22_LinMore.j0 k a0 a1 l2 a3 a4 a5 a6 t102 true) else (if (a3.size : Int) > 100 then (lamplighterlaw22_LinMore.j0 k a0 a1 l2 a3 a4 a5 a6 t102 true) else ((lamplighterref22_Short.f k l2 12).bind fun t103 => (if t103 = true then (if (l2.length : Int) = 0 then (lamplighterlaw22_LinMore.j0 k a0 a1 l2 a3 a4 a5 a6 t102 true) else ((lin_Check.f a0 a1 l2 a3 a4).bind fun t104 => (lamplighterlaw22_LinMore.j0 k a0 a1 l2 a3 a4 a5 a6 t102 (!t104)))) else (lamplighterlaw22_LinMore.j0 k a0 a1 l2 a3 a4 a5 a6 t102 true))))) = some r := H
  have A8 := Aside0.mk A80
  clear A80
  have HC9 := Aside0.mk H
  clear H
  go_enter Try.func5, Try.ntmps5
  go_upto_region 2 with (first | ((with_reducible refine gate_callee (f := 8) rfl ?_); refine goesL_ (some 21) rfl rfl Try.func8 (by kernel_rfl) rfl #[] rfl (by (try simp only [List.map_toArray, List.map_cons, List.map_nil]); first | done | rfl | (simp only [List.length_drop, List.length_take]; rfl)) ?_; (with_reducible refine (lamplighterlaw22_awake.calls  t102 _ A8.out).mono ?_); rintro e w10 ⟨rfl, hb⟩; refine ⟨_, rfl, ?_⟩; have n0_ := Aside0.mk (below_step (by repeat (first | (with_reducible first | exact HB.out | apply below_alloc | apply pw_below_drewN | apply below_drew1) | exact HB.out)) hb); clear HB; have HB := n0_; clear n0_; (try clear hb); (try clear hb2); (try clear hk); (try clear hi)))
  (try simp only [Act.put, List.setIfInBounds_toArray, List.set_cons_zero, List.set_cons_succ])
  go_cut [48] (fun v48 wc => ∃ (kq : Nat) (x48_8 : Bool), v48 = .bool x48_8 ∧ Aside0 (lamplighterlaw22_LinMore.j0 kq a0 a1 l2 a3 a4 a5 a6 t102 x48_8 = some r) ∧ Aside0 (kq ≤ k) ∧ Aside0 (Below w.heap.size w wc))
  case first =>
    have H := HC9.out
    clear HC9
    by_cases c11 : (a0.size : Int) > 100
    · rw [if_pos c11] at H
      have c11b0 : decide (100 < (a0.size : Int)) = true := decide_eq_true c11
      have c11b1 : decide (100 < a0.size) = true := decide_eq_true (by omega)
      clear c11
      (first | rw [c11b0] | (simp only [i64_w, i32_w]; rw [c11b0]) | skip)
      have H' := Aside0.mk H
      clear H
      go_wp2
      go_meet
      case rel => exact ⟨_, (true), (by first | rfl | (simp; done) | (simp [*]; done)), H', ⟨by first | omega | exact Nat.le_refl _⟩, ⟨by repeat (first | (with_reducible first | exact HB.out | apply below_alloc | apply pw_below_drewN | apply below_drew1) | exact HB.out)⟩⟩
    · rw [if_neg c11] at H
      have c11b0 : decide (100 < (a0.size : Int)) = false := decide_eq_false c11
      have c11b1 : decide (100 < a0.size) = false := decide_eq_false (by omega)
      clear c11
      (first | rw [c11b0] | (simp only [i64_w, i32_w]; rw [c11b0]) | skip)
      by_cases c12 : (a3.size : Int) > 100
      · rw [if_pos c12] at H
        have c12b0 : decide (100 < (a3.size : Int)) = true := decide_eq_true c12
        have c12b1 : decide (100 < a3.size) = true := decide_eq_true (by omega)
        clear c12
        have H' := Aside0.mk H
        clear H
        go_wp2
        go_meet
        case rel => exact ⟨_, (true), (by first | rfl | (simp; done) | (simp [*]; done)), H', ⟨by first | omega | exact Nat.le_refl _⟩, ⟨by repeat (first | (with_reducible first | exact HB.out | apply below_alloc | apply pw_below_drewN | apply below_drew1) | exact HB.out)⟩⟩
      · rw [if_neg c12] at H
        have c12b0 : decide (100 < (a3.size : Int)) = false := decide_eq_false c12
        have c12b1 : decide (100 < a3.size) = false := decide_eq_false (by omega)
        clear c12
        replace H := Option.bind_eq_some_iff.mp H
        obtain ⟨t103, A130, H⟩ := H
        replace H : (if t103 = true then (if (l2.length : Int) = 0 then (lamplighterlaw22_LinMore.j0 k a0 a1 l2 a3 a4 a5 a6 t102 true) else ((lin_Check.f a0 a1 l2 a3 a4).bind fun t104 => (lamplighterlaw22_LinMore.j0 k a0 a1 l2 a3 a4 a5 a6 t102 (!t104)))) else (lamplighterlaw22_LinMore.j0 k a0 a1 l2 a3 a4 a5 a6 t102 true)) = some r := H
        have A13 := Aside0.mk A130
        clear A130
        by_cases c14 : t103 = true
        · subst c14
          have H1 : (if (l2.length : Int) = 0 then (lamplighterlaw22_LinMore.j0 k a0 a1 l2 a3 a4 a5 a6 t102 true) else ((lin_Check.f a0 a1 l2 a3 a4).bind fun t104 => (lamplighterlaw22_LinMore.j0 k a0 a1 l2 a3 a4 a5 a6 t102 (!t104)))) = some r := by rw [if_pos rfl] at H; exact H
          clear H
          have H := H1
          clear H1
          by_cases c15 : (l2.length : Int) = 0
          · rw [if_pos c15] at H
            have c15b0 : ((l2.length : Int) == 0) = true := beq_iff_eq.mpr c15
            have c15b1 : ((l2.length : Int) != 0) = false := bne_eq_false_iff_eq.mpr c15
            clear c15
            have H' := Aside0.mk H
            clear H
            go_wp2_with (first | (go_at_call 9; (with_reducible refine (lamplighterref22_Short.calls k _ _ l2 12 true _ ?side1 ?side2 A13.out).mono ?_); (case side1 => repeat (first | exact (Kd.C_below HR2.out HB.out) | (with_reducible refine Kd.C_alloc ?_ _) | (with_reducible refine Kd.C_drewN ?_ _) | (with_reducible refine Kd.C_drew ?_))); (case side2 => exact HC2.out); rintro e w' ⟨rfl, ⟨nd, rfl⟩⟩))
            go_meet
            case rel => exact ⟨_, (true), (by first | rfl | (simp; done) | (simp [*]; done)), H', ⟨by first | omega | exact Nat.le_refl _⟩, ⟨by repeat (first | (with_reducible first | exact HB.out | apply below_alloc | apply pw_below_drewN | apply below_drew1) | exact HB.out)⟩⟩
          · rw [if_neg c15] at H
            have c15b0 : ((l2.length : Int) == 0) = false := beq_eq_false_iff_ne.mpr c15
            have c15b1 : ((l2.length : Int) != 0) = true := bne_iff_ne.mpr c15
            have c15b2 : ¬ (l2 = []) := fun h_ => c15 (by rw [h_]; rfl)
            replace H := Option.bind_eq_some_iff.mp H
            obtain ⟨t104, A160, H⟩ := H
            replace H : (lamplighterlaw22_LinMore.j0 k a0 a1 l2 a3 a4 a5 a6 t102 (!t104)) = some r := H
            have A16 := Aside0.mk A160
            clear A160
            have H' := Aside0.mk H
            clear H
            go_wp2_with (first | (go_at_call 9; (with_reducible refine (lamplighterref22_Short.calls k _ _ l2 12 true _ ?side1 ?side2 A13.out).mono ?_); (case side1 => repeat (first | exact (Kd.C_below HR2.out HB.out) | (with_reducible refine Kd.C_alloc ?_ _) | (with_reducible refine Kd.C_drewN ?_ _) | (with_reducible refine Kd.C_drew ?_))); (case side2 => exact HC2.out); rintro e w' ⟨rfl, ⟨nd, rfl⟩⟩) | (go_at_call 11; (with_reducible refine (lin_Check.calls a0 a1 _ _ l2 a3 a4 t104 _ ?side1 ?side2 A16.out).mono ?_); (case side1 => repeat (first | exact (Kd.C_below HR2.out (by repeat (first | (with_reducible first | exact HB.out | apply below_alloc | apply pw_below_drewN | apply below_drew1) | exact HB.out))) | (with_reducible refine Kd.C_alloc ?_ _) | (with_reducible refine Kd.C_drewN ?_ _) | (with_reducible refine Kd.C_drew ?_))); (case side2 => exact HC2.out); rintro e w17 ⟨rfl, hb⟩; have n0_ := Aside0.mk (below_step (by repeat (first | (with_reducible first | exact HB.out | apply below_alloc | apply pw_below_drewN | apply below_drew1) | exact HB.out)) hb); clear HB; have HB := n0_; clear n0_; (try clear hb); (try clear hb2); (try clear hk); (try clear hi)))
            go_meet
            case rel => exact ⟨_, (!t104), (by first | rfl | (simp; done) | (simp [*]; done)), H', ⟨by first | omega | exact Nat.le_refl _⟩, ⟨by repeat (first | (with_reducible first | exact HB.out | apply below_alloc | apply pw_below_drewN | apply below_drew1) | exact HB.out)⟩⟩
        · replace c14 := Bool.eq_false_iff.mpr c14
          subst c14
          have H1 : (lamplighterlaw22_LinMore.j0 k a0 a1 l2 a3 a4 a5 a6 t102 true) = some r := by rw [if_neg (show ¬ (false = true) by decide)] at H; exact H
          clear H
          have H := H1
          clear H1
          have H' := Aside0.mk H
          clear H
          go_wp2_with (first | (go_at_call 9; (with_reducible refine (lamplighterref22_Short.calls k _ _ l2 12 false _ ?side1 ?side2 A13.out).mono ?_); (case side1 => repeat (first | exact (Kd.C_below HR2.out HB.out) | (with_reducible refine Kd.C_alloc ?_ _) | (with_reducible refine Kd.C_drewN ?_ _) | (with_reducible refine Kd.C_drew ?_))); (case side2 => exact HC2.out); rintro e w' ⟨rfl, ⟨nd, rfl⟩⟩))
          go_meet
          case rel => exact ⟨_, (true), (by first | rfl | (simp; done) | (simp [*]; done)), H', ⟨by first | omega | exact Nat.le_refl _⟩, ⟨by repeat (first | (with_reducible first | exact HB.out | apply below_alloc | apply pw_below_drewN | apply below_drew1) | exact HB.out)⟩⟩
  case rest =>
    clear HC9
    try clear c1
    try clear c2
    try clear p2
    try clear c5
    try clear c8
    try clear c11
    try clear c11b0
    try clear c11b1
    try clear c12
    try clear c12b0
    try clear c12b1
    try clear c14
    try clear c15
    try clear c15b0
    try clear c15b1
    try clear c15b2
    obtain ⟨kq, x48_8, rfl, HA, HJ8, HB⟩ := hcut
    cases kq with
    | zero => exact absurd HA.out (by simp [lamplighterlaw22_LinMore.j0])
    | succ kj8 =>
      have H := HA.out
      clear HA
      simp only [lamplighterlaw22_LinMore.j0] at H
      by_cases c18 : x48_8 = true
      · subst c18
        have H1 : (some t102) = some r := by rw [if_pos rfl] at H; exact H
        clear H
        have H := H1
        clear H1
        obtain rfl := Option.some.inj H
        go_wp2
        go_ret
        exact ⟨by first | rfl | (simp [errW_none, errW_some] <;> rfl) | (simp [*, errW_none, errW_some] <;> rfl), by repeat (first | (with_reducible first | exact HB.out | apply below_alloc | apply pw_below_drewN | apply below_drew1) | exact HB.out)⟩
      · replace c18 := Bool.eq_false_iff.mpr c18
        subst c18
        have H1 : (if (l2.length : Int) = 0 then (none) else (if 0 ≤ (Int.tmod (wrap64 (a5)) (l2.length : Int)) then (if (Int.tmod (wrap64 (a5)) (l2.length : Int)) < (l2.length : Int) then (if ((rd_T37 l2 (Int.tmod (wrap64 (a5)) (l2.length : Int))).f0) < (-1099511627776) then (lamplighterlaw22_LinMore.j1 kj8 a0 a1 l2 a3 a4 a6 t102 (Int.tmod (wrap64 (a5)) (l2.length : Int)) true ((rd_T37 l2 (Int.tmod (wrap64 (a5)) (l2.length : Int))).f0) ((rd_T37 l2 (Int.tmod (wrap64 (a5)) (l2.length : Int))).f1) ((rd_T37 l2 (Int.tmod (wrap64 (a5)) (l2.length : Int))).f2) ((rd_T37 l2 (Int.tmod (wrap64 (a5)) (l2.length : Int))).f3) ((rd_T37 l2 (Int.tmod (wrap64 (a5)) (l2.length : Int))).f4) ((rd_T37 l2 (Int.tmod (wrap64 (a5)) (l2.length : Int))).f5)) else (if ((rd_T37 l2 (Int.tmod (wrap64 (a5)) (l2.length : Int))).f0) > 1099511627776 then (lamplighterlaw22_LinMore.j1 kj8 a0 a1 l2 a3 a4 a6 t102 (Int.tmod (wrap64 (a5)) (l2.length : Int)) true ((rd_T37 l2 (Int.tmod (wrap64 (a5)) (l2.length : Int))).f0) ((rd_T37 l2 (Int.tmod (wrap64 (a5)) (l2.length : Int))).f1) ((rd_T37 l2 (Int.tmod (wrap64 (a5)) (l2.length : Int))).f2) ((rd_T37 l2 (Int.tmod (wrap64 (a5)) (l2.length : Int))).f3) ((rd_T37 l2 (Int.tmod (wrap64 (a5)) (l2.length : Int))).f4) ((rd_T37 l2 (Int.tmod (wrap64 (a5)) (l2.length : Int))).f5)) else (if ((rd_T37 l2 (Int.tmod (wrap64 (a5)) (l2.length : Int))).f1) < (-1099511627776) then (lamplighterlaw22_LinMore.j1 kj8 a0 a1 l2 a3 a4 a6 t102 (Int.tmod (wrap64 (a5)) (l2.length : Int)) true ((rd_T37 l2 (Int.tmod (wrap64 (a5)) (l2.length : Int))).f0) ((rd_T37 l2 (Int.tmod (wrap64 (a5)) (l2.length : Int))).f1) ((rd_T37 l2 (Int.tmod (wrap64 (a5)) (l2.length : Int))).f2) ((rd_T37 l2 (Int.tmod (wrap64 (a5)) (l2.length : Int))).f3) ((rd_T37 l2 (Int.tmod (wrap64 (a5)) (l2.length : Int))).f4) ((rd_T37 l2 (Int.tmod (wrap64 (a5)) (l2.length : Int))).f5)) else (lamplighterlaw22_LinMore.j1 kj8 a0 a1 l2 a3 a4 a6 t102 (Int.tmod (wrap64 (a5)) (l2.length : Int)) (decide (((rd_T37 l2 (Int.tmod (wrap64 (a5)) (l2.length : Int))).f1) > 1099511627776)) ((rd_T37 l2 (Int.tmod (wrap64 (a5)) (l2.length : Int))).f0) ((rd_T37 l2 (Int.tmod (wrap64 (a5)) (l2.length : Int))).f1) ((rd_T37 l2 (Int.tmod (wrap64 (a5)) (l2.length : Int))).f2) ((rd_T37 l2 (Int.tmod (wrap64 (a5)) (l2.length : Int))).f3) ((rd_T37 l2 (Int.tmod (wrap64 (a5)) (l2.length : Int))).f4) ((rd_T37 l2 (Int.tmod (wrap64 (a5)) (l2.length : Int))).f5))))) else (none)) else (none))) = some r := by rw [if_neg (show ¬ (false = true) by decide)] at H; exact H
        clear H
        have H := H1
        clear H1
        by_cases c19 : (l2.length : Int) = 0
        · rw [if_pos c19] at H
          exact absurd H (by simp)
        · rw [if_neg c19] at H
          have c19b0 : ((l2.length : Int) == 0) = false := beq_eq_false_iff_ne.mpr c19
          have c19b1 : ((l2.length : Int) != 0) = true := bne_iff_ne.mpr c19
          have c19b2 : ¬ (l2 = []) := fun h_ => c19 (by rw [h_]; rfl)
          obtain ⟨ji20, hji20⟩ : ∃ j_ : Int, (Int.tmod (wrap64 (a5)) (l2.length : Int)) = j_ := ⟨_, rfl⟩
          replace H : (if 0 ≤ (ji20) then (if (ji20) < (l2.length : Int) then (if ((rd_T37 l2 (ji20)).f0) < (-1099511627776) then (lamplighterlaw22_LinMore.j1 kj8 a0 a1 l2 a3 a4 a6 t102 ji20 true ((rd_T37 l2 (ji20)).f0) ((rd_T37 l2 (ji20)).f1) ((rd_T37 l2 (ji20)).f2) ((rd_T37 l2 (ji20)).f3) ((rd_T37 l2 (ji20)).f4) ((rd_T37 l2 (ji20)).f5)) else (if ((rd_T37 l2 (ji20)).f0) > 1099511627776 then (lamplighterlaw22_LinMore.j1 kj8 a0 a1 l2 a3 a4 a6 t102 ji20 true ((rd_T37 l2 (ji20)).f0) ((rd_T37 l2 (ji20)).f1) ((rd_T37 l2 (ji20)).f2) ((rd_T37 l2 (ji20)).f3) ((rd_T37 l2 (ji20)).f4) ((rd_T37 l2 (ji20)).f5)) else (if ((rd_T37 l2 (ji20)).f1) < (-1099511627776) then (lamplighterlaw22_LinMore.j1 kj8 a0 a1 l2 a3 a4 a6 t102 ji20 true ((rd_T37 l2 (ji20)).f0) ((rd_T37 l2 (ji20)).f1) ((rd_T37 l2 (ji20)).f2) ((rd_T37 l2 (ji20)).f3) ((rd_T37 l2 (ji20)).f4) ((rd_T37 l2 (ji20)).f5)) else (lamplighterlaw22_LinMore.j1 kj8 a0 a1 l2 a3 a4 a6 t102 ji20 (decide (((rd_T37 l2 (ji20)).f1) > 1099511627776)) ((rd_T37 l2 (ji20)).f0) ((rd_T37 l2 (ji20)).f1) ((rd_T37 l2 (ji20)).f2) ((rd_T37 l2 (ji20)).f3) ((rd_T37 l2 (ji20)).f4) ((rd_T37 l2 (ji20)).f5))))) else (none)) else (none)) = some r := by first | (rw [hji20] at H; exact H) | (simp only [hji20] at H ⊢; exact H)
          by_cases c21 : 0 ≤ (ji20)
          · rw [if_pos c21] at H
            have c21b0 : decide (0 ≤ (ji20)) = true := decide_eq_true c21
            clear c21
            by_cases c22 : (ji20) < (l2.length : Int)
            · rw [if_pos c22] at H
              have c22b0 : decide ((ji20) < (l2.length : Int)) = true := decide_eq_true c22
              clear c22
              have HC23 := Aside0.mk H
              clear H
              have p105 : 0 ≤ ((ji20) : Int) := of_decide_eq_true (by first | (with_reducible assumption) | assumption)
              have q105 : (ji20) < (l2.length : Int) := of_decide_eq_true (by first | (with_reducible assumption) | assumption)
              obtain ⟨ad105, e105, hx105_0, hx105_1, hx105_2, hx105_3, hx105_4, hx105_5⟩ := at_T37 HR2.out (ji20) p105 q105
              cases e105
              replace hx105_0 := (HB.out.cell (World.block_lt_of_cell? w _ hx105_0)).trans hx105_0
              replace hx105_1 := (HB.out.cell (World.block_lt_of_cell? w _ hx105_1)).trans hx105_1
              replace hx105_2 := (HB.out.cell (World.block_lt_of_cell? w _ hx105_2)).trans hx105_2
              replace hx105_3 := (HB.out.cell (World.block_lt_of_cell? w _ hx105_3)).trans hx105_3
              replace hx105_4 := (HB.out.cell (World.block_lt_of_cell? w _ hx105_4)).trans hx105_4
              replace hx105_5 := (HB.out.cell (World.block_lt_of_cell? w _ hx105_5)).trans hx105_5
              replace p105 := eq_true p105
              replace q105 := eq_true q105
              go_upto_region 6 with (first | ((with_reducible refine gate_dst (N := 17) rfl ?_); (try (refine gate_guard (by rfl) ?_; dsimp only)); refine box_event ?hg (N := 17) ?hd (cs := #[.int .i64 0, .int .i64 0, .int .i64 0, .string (⟨#[]⟩ : ByteArray), .bool false, .bool false]) (t := 37) ?hr ?_; (case hd => rfl); (case hg => rfl); (case hr => first | (go_simp; done) | (go_simp; rfl)); intro gb106 hg w24 hbox hb; have n0_ := Aside0.mk (below_step (by repeat (first | (with_reducible first | exact HB.out | apply below_alloc | apply pw_below_drewN | apply below_drew1) | exact HB.out)) hb); have n1_ := Aside0.mk (hbox); have n2_ := Aside0.mk ((by rw [hg]; exact (below_size (by repeat (first | (with_reducible first | exact HB.out | apply below_alloc | apply pw_below_drewN | apply below_drew1) | exact HB.out))) : w.heap.size ≤ gb106)); have n3_ := Aside0.mk ((by rw [hg]; exact (below_size (by repeat (first | (with_reducible first | exact HB.out | apply below_alloc | apply pw_below_drewN | apply below_drew1) | exact HB.out))) : w.heap.size ≤ gb106)); clear HB; have HB := n0_; have BK106 := n1_; have GW106 := n2_; have GE106 := n3_; clear n0_ n1_ n2_ n3_; clear hb hbox hg; have hcz25_0 : w24.cell? ⟨gb106, 0, none⟩ = some (.int .i64 0) := (blk_cell BK106.out 0).trans rfl; have hcz25_1 : w24.cell? ⟨gb106, 1, none⟩ = some (.int .i64 0) := (blk_cell BK106.out 1).trans rfl; have hcz25_2 : w24.cell? ⟨gb106, 2, none⟩ = some (.int .i64 0) := (blk_cell BK106.out 2).trans rfl; have hcz25_3 : w24.cell? ⟨gb106, 3, none⟩ = some (.string (⟨#[]⟩ : ByteArray)) := (blk_cell BK106.out 3).trans rfl; have hcz25_4 : w24.cell? ⟨gb106, 4, none⟩ = some (.bool false) := (blk_cell BK106.out 4).trans rfl; have hcz25_5 : w24.cell? ⟨gb106, 5, none⟩ = some (.bool false) := (blk_cell BK106.out 5).trans rfl; have hfz25_0 := blk_frozen BK106.out 0; have hfz25_1 := blk_frozen BK106.out 1; have hfz25_2 := blk_frozen BK106.out 2; have hfz25_3 := blk_frozen BK106.out 3; have hfz25_4 := blk_frozen BK106.out 4; have hfz25_5 := blk_frozen BK106.out 5))
              (try simp only [Act.put, List.setIfInBounds_toArray, List.set_cons_zero, List.set_cons_succ])
              go_cut [76] (fun v76 wc => ∃ (kq : Nat) (x76_22 : Bool), v76 = .bool x76_22 ∧ Aside0 (lamplighterlaw22_LinMore.j1 kq a0 a1 l2 a3 a4 a6 t102 ji20 x76_22 ((rd_T37 l2 (ji20)).f0) ((rd_T37 l2 (ji20)).f1) ((rd_T37 l2 (ji20)).f2) ((rd_T37 l2 (ji20)).f3) ((rd_T37 l2 (ji20)).f4) ((rd_T37 l2 (ji20)).f5) = some r) ∧ Aside0 (kq ≤ kj8) ∧ Aside0 (wc.heap[gb106]? = some (.cells #[.int .i64 ((rd_T37 l2 (ji20)).f0), .int .i64 ((rd_T37 l2 (ji20)).f1), .int .i64 ((rd_T37 l2 (ji20)).f2), .string ((rd_T37 l2 (ji20)).f3), .bool ((rd_T37 l2 (ji20)).f4), .bool ((rd_T37 l2 (ji20)).f5)] 37 (0, 0))) ∧ Aside0 (Below w.heap.size w wc))
              case first =>
                have H := HC23.out
                clear HC23
                by_cases c26 : ((rd_T37 l2 (ji20)).f0) < (-1099511627776)
                · rw [if_pos c26] at H
                  have c26b0 : decide (((rd_T37 l2 (ji20)).f0) < (-1099511627776)) = true := decide_eq_true c26
                  clear c26
                  (first | rw [c26b0] | (simp only [i64_w, i32_w]; rw [c26b0]) | skip)
                  have H' := Aside0.mk H
                  clear H
                  have hcz27_0 : w24.cell? ⟨gb106, 0, none⟩ = some (.int .i64 0) := (blk_cell BK106.out 0).trans rfl
                  have hcz27_1 : w24.cell? ⟨gb106, 1, none⟩ = some (.int .i64 0) := (blk_cell BK106.out 1).trans rfl
                  have hcz27_2 : w24.cell? ⟨gb106, 2, none⟩ = some (.int .i64 0) := (blk_cell BK106.out 2).trans rfl
                  have hcz27_3 : w24.cell? ⟨gb106, 3, none⟩ = some (.string (⟨#[]⟩ : ByteArray)) := (blk_cell BK106.out 3).trans rfl
                  have hcz27_4 : w24.cell? ⟨gb106, 4, none⟩ = some (.bool false) := (blk_cell BK106.out 4).trans rfl
                  have hcz27_5 : w24.cell? ⟨gb106, 5, none⟩ = some (.bool false) := (blk_cell BK106.out 5).trans rfl
                  have hfz27_0 := blk_frozen BK106.out 0
                  have hfz27_1 := blk_frozen BK106.out 1
                  have hfz27_2 := blk_frozen BK106.out 2
                  have hfz27_3 := blk_frozen BK106.out 3
                  have hfz27_4 := blk_frozen BK106.out 4
                  have hfz27_5 := blk_frozen BK106.out 5
                  go_wp2
                  go_meet
                  case rel => exact ⟨_, (true), (by first | rfl | (simp; done) | (simp [*]; done)), H', ⟨by have := HJ8.out; first | omega | exact Nat.le_refl _⟩, ⟨by (with_reducible repeat (first | refine blk_drewN ?_ _ | refine blk_drew ?_ | refine blk_alloc ?_ _)); refine blk_put (cs := #[.int .i64 ((rd_T37 l2 (ji20)).f0), .int .i64 ((rd_T37 l2 (ji20)).f1), .int .i64 ((rd_T37 l2 (ji20)).f2), .string ((rd_T37 l2 (ji20)).f3), .bool ((rd_T37 l2 (ji20)).f4), .bool false]) ?_ 5 _ rfl; (with_reducible repeat (first | refine blk_drewN ?_ _ | refine blk_drew ?_ | refine blk_alloc ?_ _)); refine blk_put (cs := #[.int .i64 ((rd_T37 l2 (ji20)).f0), .int .i64 ((rd_T37 l2 (ji20)).f1), .int .i64 ((rd_T37 l2 (ji20)).f2), .string ((rd_T37 l2 (ji20)).f3), .bool false, .bool false]) ?_ 4 _ rfl; (with_reducible repeat (first | refine blk_drewN ?_ _ | refine blk_drew ?_ | refine blk_alloc ?_ _)); refine blk_put (cs := #[.int .i64 ((rd_T37 l2 (ji20)).f0), .int .i64 ((rd_T37 l2 (ji20)).f1), .int .i64 ((rd_T37 l2 (ji20)).f2), .string (⟨#[]⟩ : ByteArray), .bool false, .bool false]) ?_ 3 _ rfl; (with_reducible repeat (first | refine blk_drewN ?_ _ | refine blk_drew ?_ | refine blk_alloc ?_ _)); refine blk_put (cs := #[.int .i64 ((rd_T37 l2 (ji20)).f0), .int .i64 ((rd_T37 l2 (ji20)).f1), .int .i64 0, .string (⟨#[]⟩ : ByteArray), .bool false, .bool false]) ?_ 2 _ rfl; (with_reducible repeat (first | refine blk_drewN ?_ _ | refine blk_drew ?_ | refine blk_alloc ?_ _)); refine blk_put (cs := #[.int .i64 ((rd_T37 l2 (ji20)).f0), .int .i64 0, .int .i64 0, .string (⟨#[]⟩ : ByteArray), .bool false, .bool false]) ?_ 1 _ rfl; (with_reducible repeat (first | refine blk_drewN ?_ _ | refine blk_drew ?_ | refine blk_alloc ?_ _)); refine blk_put (cs := #[.int .i64 0, .int .i64 0, .int .i64 0, .string (⟨#[]⟩ : ByteArray), .bool false, .bool false]) ?_ 0 _ rfl; (with_reducible repeat (first | refine blk_drewN ?_ _ | refine blk_drew ?_ | refine blk_alloc ?_ _)); exact BK106.out⟩, ⟨by repeat (first | (with_reducible first | exact HB.out | apply below_alloc | apply pw_below_drewN | apply below_drew1 | refine below_set ?_ GE106.out) | exact HB.out)⟩⟩
                · rw [if_neg c26] at H
                  have c26b0 : decide (((rd_T37 l2 (ji20)).f0) < (-1099511627776)) = false := decide_eq_false c26
                  clear c26
                  (first | rw [c26b0] | (simp only [i64_w, i32_w]; rw [c26b0]) | skip)
                  by_cases c28 : ((rd_T37 l2 (ji20)).f0) > 1099511627776
                  · rw [if_pos c28] at H
                    have c28b0 : decide (1099511627776 < ((rd_T37 l2 (ji20)).f0)) = true := decide_eq_true c28
                    clear c28
                    have H' := Aside0.mk H
                    clear H
                    have hcz29_0 : w24.cell? ⟨gb106, 0, none⟩ = some (.int .i64 0) := (blk_cell BK106.out 0).trans rfl
                    have hcz29_1 : w24.cell? ⟨gb106, 1, none⟩ = some (.int .i64 0) := (blk_cell BK106.out 1).trans rfl
                    have hcz29_2 : w24.cell? ⟨gb106, 2, none⟩ = some (.int .i64 0) := (blk_cell BK106.out 2).trans rfl
                    have hcz29_3 : w24.cell? ⟨gb106, 3, none⟩ = some (.string (⟨#[]⟩ : ByteArray)) := (blk_cell BK106.out 3).trans rfl
                    have hcz29_4 : w24.cell? ⟨gb106, 4, none⟩ = some (.bool false) := (blk_cell BK106.out 4).trans rfl
                    have hcz29_5 : w24.cell? ⟨gb106, 5, none⟩ = some (.bool false) := (blk_cell BK106.out 5).trans rfl
                    have hfz29_0 := blk_frozen BK106.out 0
                    have hfz29_1 := blk_frozen BK106.out 1
                    have hfz29_2 := blk_frozen BK106.out 2
                    have hfz29_3 := blk_frozen BK106.out 3
                    have hfz29_4 := blk_frozen BK106.out 4
                    have hfz29_5 := blk_frozen BK106.out 5
                    go_wp2
                    go_meet
                    case rel => exact ⟨_, (true), (by first | rfl | (simp; done) | (simp [*]; done)), H', ⟨by have := HJ8.out; first | omega | exact Nat.le_refl _⟩, ⟨by (with_reducible repeat (first | refine blk_drewN ?_ _ | refine blk_drew ?_ | refine blk_alloc ?_ _)); refine blk_put (cs := #[.int .i64 ((rd_T37 l2 (ji20)).f0), .int .i64 ((rd_T37 l2 (ji20)).f1), .int .i64 ((rd_T37 l2 (ji20)).f2), .string ((rd_T37 l2 (ji20)).f3), .bool ((rd_T37 l2 (ji20)).f4), .bool false]) ?_ 5 _ rfl; (with_reducible repeat (first | refine blk_drewN ?_ _ | refine blk_drew ?_ | refine blk_alloc ?_ _)); refine blk_put (cs := #[.int .i64 ((rd_T37 l2 (ji20)).f0), .int .i64 ((rd_T37 l2 (ji20)).f1), .int .i64 ((rd_T37 l2 (ji20)).f2), .string ((rd_T37 l2 (ji20)).f3), .bool false, .bool false]) ?_ 4 _ rfl; (with_reducible repeat (first | refine blk_drewN ?_ _ | refine blk_drew ?_ | refine blk_alloc ?_ _)); refine blk_put (cs := #[.int .i64 ((rd_T37 l2 (ji20)).f0), .int .i64 ((rd_T37 l2 (ji20)).f1), .int .i64 ((rd_T37 l2 (ji20)).f2), .string (⟨#[]⟩ : ByteArray), .bool false, .bool false]) ?_ 3 _ rfl; (with_reducible repeat (first | refine blk_drewN ?_ _ | refine blk_drew ?_ | refine blk_alloc ?_ _)); refine blk_put (cs := #[.int .i64 ((rd_T37 l2 (ji20)).f0), .int .i64 ((rd_T37 l2 (ji20)).f1), .int .i64 0, .string (⟨#[]⟩ : ByteArray), .bool false, .bool false]) ?_ 2 _ rfl; (with_reducible repeat (first | refine blk_drewN ?_ _ | refine blk_drew ?_ | refine blk_alloc ?_ _)); refine blk_put (cs := #[.int .i64 ((rd_T37 l2 (ji20)).f0), .int .i64 0, .int .i64 0, .string (⟨#[]⟩ : ByteArray), .bool false, .bool false]) ?_ 1 _ rfl; (with_reducible repeat (first | refine blk_drewN ?_ _ | refine blk_drew ?_ | refine blk_alloc ?_ _)); refine blk_put (cs := #[.int .i64 0, .int .i64 0, .int .i64 0, .string (⟨#[]⟩ : ByteArray), .bool false, .bool false]) ?_ 0 _ rfl; (with_reducible repeat (first | refine blk_drewN ?_ _ | refine blk_drew ?_ | refine blk_alloc ?_ _)); exact BK106.out⟩, ⟨by repeat (first | (with_reducible first | exact HB.out | apply below_alloc | apply pw_below_drewN | apply below_drew1 | refine below_set ?_ GE106.out) | exact HB.out)⟩⟩
                  · rw [if_neg c28] at H
                    have c28b0 : decide (1099511627776 < ((rd_T37 l2 (ji20)).f0)) = false := decide_eq_false c28
                    clear c28
                    by_cases c30 : ((rd_T37 l2 (ji20)).f1) < (-1099511627776)
                    · rw [if_pos c30] at H
                      have c30b0 : decide (((rd_T37 l2 (ji20)).f1) < (-1099511627776)) = true := decide_eq_true c30
                      clear c30
                      have H' := Aside0.mk H
                      clear H
                      have hcz31_0 : w24.cell? ⟨gb106, 0, none⟩ = some (.int .i64 0) := (blk_cell BK106.out 0).trans rfl
                      have hcz31_1 : w24.cell? ⟨gb106, 1, none⟩ = some (.int .i64 0) := (blk_cell BK106.out 1).trans rfl
                      have hcz31_2 : w24.cell? ⟨gb106, 2, none⟩ = some (.int .i64 0) := (blk_cell BK106.out 2).trans rfl
                      have hcz31_3 : w24.cell? ⟨gb106, 3, none⟩ = some (.string (⟨#[]⟩ : ByteArray)) := (blk_cell BK106.out 3).trans rfl
                      have hcz31_4 : w24.cell? ⟨gb106, 4, none⟩ = some (.bool false) := (blk_cell BK106.out 4).trans rfl
                      have hcz31_5 : w24.cell? ⟨gb106, 5, none⟩ = some (.bool false) := (blk_cell BK106.out 5).trans rfl
                      have hfz31_0 := blk_frozen BK106.out 0
                      have hfz31_1 := blk_frozen BK106.out 1
                      have hfz31_2 := blk_frozen BK106.out 2
                      have hfz31_3 := blk_frozen BK106.out 3
                      have hfz31_4 := blk_frozen BK106.out 4
                      have hfz31_5 := blk_frozen BK106.out 5
                      go_wp2
                      go_meet
                      case rel => exact ⟨_, (true), (by first | rfl | (simp; done) | (simp [*]; done)), H', ⟨by have := HJ8.out; first | omega | exact Nat.le_refl _⟩, ⟨by (with_reducible repeat (first | refine blk_drewN ?_ _ | refine blk_drew ?_ | refine blk_alloc ?_ _)); refine blk_put (cs := #[.int .i64 ((rd_T37 l2 (ji20)).f0), .int .i64 ((rd_T37 l2 (ji20)).f1), .int .i64 ((rd_T37 l2 (ji20)).f2), .string ((rd_T37 l2 (ji20)).f3), .bool ((rd_T37 l2 (ji20)).f4), .bool false]) ?_ 5 _ rfl; (with_reducible repeat (first | refine blk_drewN ?_ _ | refine blk_drew ?_ | refine blk_alloc ?_ _)); refine blk_put (cs := #[.int .i64 ((rd_T37 l2 (ji20)).f0), .int .i64 ((rd_T37 l2 (ji20)).f1), .int .i64 ((rd_T37 l2 (ji20)).f2), .string ((rd_T37 l2 (ji20)).f3), .bool false, .bool false]) ?_ 4 _ rfl; (with_reducible repeat (first | refine blk_drewN ?_ _ | refine blk_drew ?_ | refine blk_alloc ?_ _)); refine blk_put (cs := #[.int .i64 ((rd_T37 l2 (ji20)).f0), .int .i64 ((rd_T37 l2 (ji20)).f1), .int .i64 ((rd_T37 l2 (ji20)).f2), .string (⟨#[]⟩ : ByteArray), .bool false, .bool false]) ?_ 3 _ rfl; (with_reducible repeat (first | refine blk_drewN ?_ _ | refine blk_drew ?_ | refine blk_alloc ?_ _)); refine blk_put (cs := #[.int .i64 ((rd_T37 l2 (ji20)).f0), .int .i64 ((rd_T37 l2 (ji20)).f1), .int .i64 0, .string (⟨#[]⟩ : ByteArray), .bool false, .bool false]) ?_ 2 _ rfl; (with_reducible repeat (first | refine blk_drewN ?_ _ | refine blk_drew ?_ | refine blk_alloc ?_ _)); refine blk_put (cs := #[.int .i64 ((rd_T37 l2 (ji20)).f0), .int .i64 0, .int .i64 0, .string (⟨#[]⟩ : ByteArray), .bool false, .bool false]) ?_ 1 _ rfl; (with_reducible repeat (first | refine blk_drewN ?_ _ | refine blk_drew ?_ | refine blk_alloc ?_ _)); refine blk_put (cs := #[.int .i64 0, .int .i64 0, .int .i64 0, .string (⟨#[]⟩ : ByteArray), .bool false, .bool false]) ?_ 0 _ rfl; (with_reducible repeat (first | refine blk_drewN ?_ _ | refine blk_drew ?_ | refine blk_alloc ?_ _)); exact BK106.out⟩, ⟨by repeat (first | (with_reducible first | exact HB.out | apply below_alloc | apply pw_below_drewN | apply below_drew1 | refine below_set ?_ GE106.out) | exact HB.out)⟩⟩
                    · rw [if_neg c30] at H
                      have c30b0 : decide (((rd_T37 l2 (ji20)).f1) < (-1099511627776)) = false := decide_eq_false c30
                      clear c30
                      have H' := Aside0.mk H
                      clear H
                      have hcz32_0 : w24.cell? ⟨gb106, 0, none⟩ = some (.int .i64 0) := (blk_cell BK106.out 0).trans rfl
                      have hcz32_1 : w24.cell? ⟨gb106, 1, none⟩ = some (.int .i64 0) := (blk_cell BK106.out 1).trans rfl
                      have hcz32_2 : w24.cell? ⟨gb106, 2, none⟩ = some (.int .i64 0) := (blk_cell BK106.out 2).trans rfl
                      have hcz32_3 : w24.cell? ⟨gb106, 3, none⟩ = some (.string (⟨#[]⟩ : ByteArray)) := (blk_cell BK106.out 3).trans rfl
                      have hcz32_4 : w24.cell? ⟨gb106, 4, none⟩ = some (.bool false) := (blk_cell BK106.out 4).trans rfl
                      have hcz32_5 : w24.cell? ⟨gb106, 5, none⟩ = some (.bool false) := (blk_cell BK106.out 5).trans rfl
                      have hfz32_0 := blk_frozen BK106.out 0
                      have hfz32_1 := blk_frozen BK106.out 1
                      have hfz32_2 := blk_frozen BK106.out 2
                      have hfz32_3 := blk_frozen BK106.out 3
                      have hfz32_4 := blk_frozen BK106.out 4
                      have hfz32_5 := blk_frozen BK106.out 5
                      go_wp2
                      go_meet
                      case rel => exact ⟨_, (decide (((rd_T37 l2 (ji20)).f1) > 1099511627776)), (by first | rfl | (simp; done) | (simp only [← hji20] <;> (first | rfl | simp)) | (simp [*]; done)), H', ⟨by have := HJ8.out; first | omega | exact Nat.le_refl _⟩, ⟨by (with_reducible repeat (first | refine blk_drewN ?_ _ | refine blk_drew ?_ | refine blk_alloc ?_ _)); refine blk_put (cs := #[.int .i64 ((rd_T37 l2 (ji20)).f0), .int .i64 ((rd_T37 l2 (ji20)).f1), .int .i64 ((rd_T37 l2 (ji20)).f2), .string ((rd_T37 l2 (ji20)).f3), .bool ((rd_T37 l2 (ji20)).f4), .bool false]) ?_ 5 _ rfl; (with_reducible repeat (first | refine blk_drewN ?_ _ | refine blk_drew ?_ | refine blk_alloc ?_ _)); refine blk_put (cs := #[.int .i64 ((rd_T37 l2 (ji20)).f0), .int .i64 ((rd_T37 l2 (ji20)).f1), .int .i64 ((rd_T37 l2 (ji20)).f2), .string ((rd_T37 l2 (ji20)).f3), .bool false, .bool false]) ?_ 4 _ rfl; (with_reducible repeat (first | refine blk_drewN ?_ _ | refine blk_drew ?_ | refine blk_alloc ?_ _)); refine blk_put (cs := #[.int .i64 ((rd_T37 l2 (ji20)).f0), .int .i64 ((rd_T37 l2 (ji20)).f1), .int .i64 ((rd_T37 l2 (ji20)).f2), .string (⟨#[]⟩ : ByteArray), .bool false, .bool false]) ?_ 3 _ rfl; (with_reducible repeat (first | refine blk_drewN ?_ _ | refine blk_drew ?_ | refine blk_alloc ?_ _)); refine blk_put (cs := #[.int .i64 ((rd_T37 l2 (ji20)).f0), .int .i64 ((rd_T37 l2 (ji20)).f1), .int .i64 0, .string (⟨#[]⟩ : ByteArray), .bool false, .bool false]) ?_ 2 _ rfl; (with_reducible repeat (first | refine blk_drewN ?_ _ | refine blk_drew ?_ | refine blk_alloc ?_ _)); refine blk_put (cs := #[.int .i64 ((rd_T37 l2 (ji20)).f0), .int .i64 0, .int .i64 0, .string (⟨#[]⟩ : ByteArray), .bool false, .bool false]) ?_ 1 _ rfl; (with_reducible repeat (first | refine blk_drewN ?_ _ | refine blk_drew ?_ | refine blk_alloc ?_ _)); refine blk_put (cs := #[.int .i64 0, .int .i64 0, .int .i64 0, .string (⟨#[]⟩ : ByteArray), .bool false, .bool false]) ?_ 0 _ rfl; (with_reducible repeat (first | refine blk_drewN ?_ _ | refine blk_drew ?_ | refine blk_alloc ?_ _)); exact BK106.out⟩, ⟨by repeat (first | (with_reducible first | exact HB.out | apply below_alloc | apply pw_below_drewN | apply below_drew1 | refine below_set ?_ GE106.out) | exact HB.out)⟩⟩
              case rest =>
                clear HC23
                try clear c1
                try clear p1
                try clear q1
                try clear hx1
                try clear c2
                try clear p2
                try clear c3
                try clear c5
                try clear p6
                try clear c8
                try clear p10
                try clear q10
                try clear hx10
                try clear c11
                try clear c11b0
                try clear c11b1
                try clear c12
                try clear c12b0
                try clear c12b1
                try clear c14
                try clear c15
                try clear c15b0
                try clear c15b1
                try clear c15b2
                try clear c18
                try clear c19
                try clear c19b0
                try clear c19b1
                try clear c19b2
                try clear c21
                try clear c21b0
                try clear c22
                try clear c22b0
                try clear c26
                try clear c26b0
                try clear c28
                try clear c28b0
                try clear c30
                try clear c30b0
                try clear hcz25_0
                try clear hcz25_1
                try clear hcz25_2
                try clear hcz25_3
                try clear hcz25_4
                try clear hcz25_5
                try clear hcz27_0
                try clear hcz27_1
                try clear hcz27_2
                try clear hcz27_3
                try clear hcz27_4
                try clear hcz27_5
                try clear hcz29_0
                try clear hcz29_1
                try clear hcz29_2
                try clear hcz29_3
                try clear hcz29_4
                try clear hcz29_5
                try clear hcz31_0
                try clear hcz31_1
                try clear hcz31_2
                try clear hcz31_3
                try clear hcz31_4
                try clear hcz31_5
                try clear hcz32_0
                try clear hcz32_1
                try clear hcz32_2
                try clear hcz32_3
                try clear hcz32_4
                try clear hcz32_5
                try clear hfz25_0
                try clear hfz25_1
                try clear hfz25_2
                try clear hfz25_3
                try clear hfz25_4
                try clear hfz25_5
                try clear hfz27_0
                try clear hfz27_1
                try clear hfz27_2
                try clear hfz27_3
                try clear hfz27_4
                try clear hfz27_5
                try clear hfz29_0
                try clear hfz29_1
                try clear hfz29_2
                try clear hfz29_3
                try clear hfz29_4
                try clear hfz29_5
                try clear hfz31_0
                try clear hfz31_1
                try clear hfz31_2
                try clear hfz31_3
                try clear hfz31_4
                try clear hfz31_5
                try clear hfz32_0
                try clear hfz32_1
                try clear hfz32_2
                try clear hfz32_3
                try clear hfz32_4
                try clear hfz32_5
                try clear hx105_0
                try clear hx105_1
                try clear hx105_2
                try clear hx105_3
                try clear hx105_4
                try clear hx105_5
                try clear p105
                try clear p2
                try clear q105
                obtain ⟨kq, x76_22, rfl, HA, HJ22, BK106, HB⟩ := hcut
                cases kq with
                | zero => exact absurd HA.out (by simp [lamplighterlaw22_LinMore.j1])
                | succ kj22 =>
                  have H := HA.out
                  clear HA
                  simp only [lamplighterlaw22_LinMore.j1] at H
                  by_cases c33 : x76_22 = true
                  · subst c33
                    have H1 : (some t102) = some r := by rw [if_pos rfl] at H; exact H
                    clear H
                    have H := H1
                    clear H1
                    obtain rfl := Option.some.inj H
                    go_wp2
                    go_ret
                    exact ⟨by first | rfl | (simp [errW_none, errW_some] <;> rfl) | (simp only [← hji20]; first | rfl | (simp [errW_none, errW_some] <;> rfl)) | (simp [*, errW_none, errW_some] <;> rfl), by repeat (first | (with_reducible first | exact HB.out | apply below_alloc | apply pw_below_drewN | apply below_drew1 | refine below_set ?_ GE106.out) | exact HB.out)⟩
                  · replace c33 := Bool.eq_false_iff.mpr c33
                    subst c33
                    have H1 : ((some (([] : List (S37)) : List (S37))).bind fun y107 => (if y107.length + l2.length < 2932031007402 then ((some (y107 ++ l2 : List (S37))).bind fun y110 => (if 0 ≤ ji20 then (if ji20 < (y110.length : Int) then ((some (y110.set (ji20 : Int).toNat (⟨wrap64 (((rd_T37 l2 (ji20)).f0) - (wrap64 (Int.tmod a6 50))), (rd_T37 y110 ji20).f1, (rd_T37 y110 ji20).f2, (rd_T37 y110 ji20).f3, (rd_T37 y110 ji20).f4, (rd_T37 y110 ji20).f5⟩ : S37) : List (S37))).bind fun y113 => ((some (([] : List (S37)) : List (S37))).bind fun y115 => (if y115.length + l2.length < 2932031007402 then ((some (y115 ++ l2 : List (S37))).bind fun y118 => (if ji20 < (y118.length : Int) then ((some (([] : List (S37)) : List (S37))).bind fun y122 => (if y122.length + l2.length < 2932031007402 then ((some (y122 ++ l2 : List (S37))).bind fun y125 => ((some (([(⟨((rd_T37 l2 (ji20)).f0), ((rd_T37 l2 (ji20)).f1), wrap64 (Int.tmod a6 5), a0, false, false⟩ : S37)] : List (S37)) : List (S37))).bind fun y128 => (if y125.length + y128.length < 2932031007402 then (if t102 = true then ((lin_Check.f a0 a1 (y113.set (ji20 : Int).toNat (⟨(rd_T37 y113 ji20).f0, wrap64 (((rd_T37 l2 (ji20)).f1) + (wrap64 (IntKind.u16.wrap (Int.tdiv a6 50)))), (rd_T37 y113 ji20).f2, (rd_T37 y113 ji20).f3, (rd_T37 y113 ji20).f4, (rd_T37 y113 ji20).f5⟩ : S37)) a3 a4).bind fun t134 => (if t134 = true then ((lin_Check.f a0 a1 (y118.set (ji20 : Int).toNat (⟨(rd_T37 y118 ji20).f0, (rd_T37 y118 ji20).f1, (rd_T37 y118 ji20).f2, (rd_T37 y118 ji20).f3, (rd_T37 y118 ji20).f4, false⟩ : S37)) a3 a4).bind fun t135 => (if t135 = true then ((lin_Check.f a0 a1 (y125 ++ y128) a3 a4).bind fun t136 => (some t136)) else (none))) else (none))) else (none)) else (none)))) else (none))) else (none))) else (none)))) else (none)) else (none))) else (none))) = some r := by rw [if_neg (show ¬ (false = true) by decide)] at H; exact H
                    clear H
                    have H := H1
                    clear H1
                    obtain ⟨y107, hy107⟩ : ∃ y_ : List (S37), y_ = (([] : List (S37))) := ⟨_, rfl⟩
                    replace H : (if y107.length + l2.length < 2932031007402 then ((some (y107 ++ l2 : List (S37))).bind fun y110 => (if 0 ≤ ji20 then (if ji20 < (y110.length : Int) then ((some (y110.set (ji20 : Int).toNat (⟨wrap64 (((rd_T37 l2 (ji20)).f0) - (wrap64 (Int.tmod a6 50))), (rd_T37 y110 ji20).f1, (rd_T37 y110 ji20).f2, (rd_T37 y110 ji20).f3, (rd_T37 y110 ji20).f4, (rd_T37 y110 ji20).f5⟩ : S37) : List (S37))).bind fun y113 => ((some (([] : List (S37)) : List (S37))).bind fun y115 => (if y115.length + l2.length < 2932031007402 then ((some (y115 ++ l2 : List (S37))).bind fun y118 => (if ji20 < (y118.length : Int) then ((some (([] : List (S37)) : List (S37))).bind fun y122 => (if y122.length + l2.length < 2932031007402 then ((some (y122 ++ l2 : List (S37))).bind fun y125 => ((some (([(⟨((rd_T37 l2 (ji20)).f0), ((rd_T37 l2 (ji20)).f1), wrap64 (Int.tmod a6 5), a0, false, false⟩ : S37)] : List (S37)) : List (S37))).bind fun y128 => (if y125.length + y128.length < 2932031007402 then (if t102 = true then ((lin_Check.f a0 a1 (y113.set (ji20 : Int).toNat (⟨(rd_T37 y113 ji20).f0, wrap64 (((rd_T37 l2 (ji20)).f1) + (wrap64 (IntKind.u16.wrap (Int.tdiv a6 50)))), (rd_T37 y113 ji20).f2, (rd_T37 y113 ji20).f3, (rd_T37 y113 ji20).f4, (rd_T37 y113 ji20).f5⟩ : S37)) a3 a4).bind fun t134 => (if t134 = true then ((lin_Check.f a0 a1 (y118.set (ji20 : Int).toNat (⟨(rd_T37 y118 ji20).f0, (rd_T37 y118 ji20).f1, (rd_T37 y118 ji20).f2, (rd_T37 y118 ji20).f3, (rd_T37 y118 ji20).f4, false⟩ : S37)) a3 a4).bind fun t135 => (if t135 = true then ((lin_Check.f a0 a1 (y125 ++ y128) a3 a4).bind fun t136 => (some t136)) else (none))) else (none))) else (none)) else (none)))) else (none))) else (none))) else (none)))) else (none)) else (none))) else (none)) = some r := by first | (rw [hy107]; with_reducible exact H) | (have H2_ := (Option.bind_some _ _).symm.trans H; rw [hy107]; with_reducible exact H2_) | (have H2_ := (Option.bind_some _ _).symm.trans H; with_reducible exact H2_) | with_reducible exact H | (rw [hy107]; exact H) | exact H
                    have Ny107 := Aside0.mk hy107
                    clear hy107
                    by_cases c34 : y107.length + l2.length < 2932031007402
                    · rw [if_pos c34] at H
                      have LMc34 := Aside0.mk c34
                      clear c34
                      obtain ⟨y110, hy110⟩ : ∃ y_ : List (S37), y_ = (y107 ++ l2) := ⟨_, rfl⟩
                      replace H : (if 0 ≤ ji20 then (if ji20 < (y110.length : Int) then ((some (y110.set (ji20 : Int).toNat (⟨wrap64 (((rd_T37 l2 (ji20)).f0) - (wrap64 (Int.tmod a6 50))), (rd_T37 y110 ji20).f1, (rd_T37 y110 ji20).f2, (rd_T37 y110 ji20).f3, (rd_T37 y110 ji20).f4, (rd_T37 y110 ji20).f5⟩ : S37) : List (S37))).bind fun y113 => ((some (([] : List (S37)) : List (S37))).bind fun y115 => (if y115.length + l2.length < 2932031007402 then ((some (y115 ++ l2 : List (S37))).bind fun y118 => (if ji20 < (y118.length : Int) then ((some (([] : List (S37)) : List (S37))).bind fun y122 => (if y122.length + l2.length < 2932031007402 then ((some (y122 ++ l2 : List (S37))).bind fun y125 => ((some (([(⟨((rd_T37 l2 (ji20)).f0), ((rd_T37 l2 (ji20)).f1), wrap64 (Int.tmod a6 5), a0, false, false⟩ : S37)] : List (S37)) : List (S37))).bind fun y128 => (if y125.length + y128.length < 2932031007402 then (if t102 = true then ((lin_Check.f a0 a1 (y113.set (ji20 : Int).toNat (⟨(rd_T37 y113 ji20).f0, wrap64 (((rd_T37 l2 (ji20)).f1) + (wrap64 (IntKind.u16.wrap (Int.tdiv a6 50)))), (rd_T37 y113 ji20).f2, (rd_T37 y113 ji20).f3, (rd_T37 y113 ji20).f4, (rd_T37 y113 ji20).f5⟩ : S37)) a3 a4).bind fun t134 => (if t134 = true then ((lin_Check.f a0 a1 (y118.set (ji20 : Int).toNat (⟨(rd_T37 y118 ji20).f0, (rd_T37 y118 ji20).f1, (rd_T37 y118 ji20).f2, (rd_T37 y118 ji20).f3, (rd_T37 y118 ji20).f4, false⟩ : S37)) a3 a4).bind fun t135 => (if t135 = true then ((lin_Check.f a0 a1 (y125 ++ y128) a3 a4).bind fun t136 => (some t136)) else (none))) else (none))) else (none)) else (none)))) else (none))) else (none))) else (none)))) else (none)) else (none)) = some r := by first | (rw [hy110]; with_reducible exact H) | (have H2_ := (Option.bind_some _ _).symm.trans H; rw [hy110]; with_reducible exact H2_) | (have H2_ := (Option.bind_some _ _).symm.trans H; with_reducible exact H2_) | with_reducible exact H | (rw [hy110]; exact H) | exact H
                      have Ny110 := Aside0.mk hy110
                      clear hy110
                      by_cases c35 : 0 ≤ ji20
                      · rw [if_pos c35] at H
                        have c35b0 : decide (0 ≤ ji20) = true := decide_eq_true c35
                        clear c35
                        by_cases c36 : ji20 < (y110.length : Int)
                        · rw [if_pos c36] at H
                          have c36b0 : decide (ji20 < (y110.length : Int)) = true := decide_eq_true c36
                          clear c36
                          obtain ⟨y113, hy113⟩ : ∃ y_ : List (S37), y_ = (y110.set (ji20 : Int).toNat (⟨wrap64 (((rd_T37 l2 (ji20)).f0) - (wrap64 (Int.tmod a6 50))), (rd_T37 y110 ji20).f1, (rd_T37 y110 ji20).f2, (rd_T37 y110 ji20).f3, (rd_T37 y110 ji20).f4, (rd_T37 y110 ji20).f5⟩ : S37)) := ⟨_, rfl⟩
                          replace H : ((some (([] : List (S37)) : List (S37))).bind fun y115 => (if y115.length + l2.length < 2932031007402 then ((some (y115 ++ l2 : List (S37))).bind fun y118 => (if ji20 < (y118.length : Int) then ((some (([] : List (S37)) : List (S37))).bind fun y122 => (if y122.length + l2.length < 2932031007402 then ((some (y122 ++ l2 : List (S37))).bind fun y125 => ((some (([(⟨((rd_T37 l2 (ji20)).f0), ((rd_T37 l2 (ji20)).f1), wrap64 (Int.tmod a6 5), a0, false, false⟩ : S37)] : List (S37)) : List (S37))).bind fun y128 => (if y125.length + y128.length < 2932031007402 then (if t102 = true then ((lin_Check.f a0 a1 (y113.set (ji20 : Int).toNat (⟨(rd_T37 y113 ji20).f0, wrap64 (((rd_T37 l2 (ji20)).f1) + (wrap64 (IntKind.u16.wrap (Int.tdiv a6 50)))), (rd_T37 y113 ji20).f2, (rd_T37 y113 ji20).f3, (rd_T37 y113 ji20).f4, (rd_T37 y113 ji20).f5⟩ : S37)) a3 a4).bind fun t134 => (if t134 = true then ((lin_Check.f a0 a1 (y118.set (ji20 : Int).toNat (⟨(rd_T37 y118 ji20).f0, (rd_T37 y118 ji20).f1, (rd_T37 y118 ji20).f2, (rd_T37 y118 ji20).f3, (rd_T37 y118 ji20).f4, false⟩ : S37)) a3 a4).bind fun t135 => (if t135 = true then ((lin_Check.f a0 a1 (y125 ++ y128) a3 a4).bind fun t136 => (some t136)) else (none))) else (none))) else (none)) else (none)))) else (none))) else (none))) else (none))) = some r := by first | (rw [hy113]; with_reducible exact H) | (have H2_ := (Option.bind_some _ _).symm.trans H; rw [hy113]; with_reducible exact H2_) | (have H2_ := (Option.bind_some _ _).symm.trans H; with_reducible exact H2_) | with_reducible exact H | (rw [hy113]; exact H) | exact H
                          have Ny113 := Aside0.mk hy113
                          clear hy113
                          obtain ⟨y114, hy114⟩ : ∃ y_ : List (S37), y_ = (y113.set (ji20 : Int).toNat (⟨(rd_T37 y113 ji20).f0, wrap64 (((rd_T37 l2 (ji20)).f1) + (wrap64 (IntKind.u16.wrap (Int.tdiv a6 50)))), (rd_T37 y113 ji20).f2, (rd_T37 y113 ji20).f3, (rd_T37 y113 ji20).f4, (rd_T37 y113 ji20).f5⟩ : S37)) := ⟨_, rfl⟩
                          replace H : ((some (([] : List (S37)) : List (S37))).bind fun y115 => (if y115.length + l2.length < 2932031007402 then ((some (y115 ++ l2 : List (S37))).bind fun y118 => (if ji20 < (y118.length : Int) then ((some (([] : List (S37)) : List (S37))).bind fun y122 => (if y122.length + l2.length < 2932031007402 then ((some (y122 ++ l2 : List (S37))).bind fun y125 => ((some (([(⟨((rd_T37 l2 (ji20)).f0), ((rd_T37 l2 (ji20)).f1), wrap64 (Int.tmod a6 5), a0, false, false⟩ : S37)] : List (S37)) : List (S37))).bind fun y128 => (if y125.length + y128.length < 2932031007402 then (if t102 = true then ((lin_Check.f a0 a1 y114 a3 a4).bind fun t134 => (if t134 = true then ((lin_Check.f a0 a1 (y118.set (ji20 : Int).toNat (⟨(rd_T37 y118 ji20).f0, (rd_T37 y118 ji20).f1, (rd_T37 y118 ji20).f2, (rd_T37 y118 ji20).f3, (rd_T37 y118 ji20).f4, false⟩ : S37)) a3 a4).bind fun t135 => (if t135 = true then ((lin_Check.f a0 a1 (y125 ++ y128) a3 a4).bind fun t136 => (some t136)) else (none))) else (none))) else (none)) else (none)))) else (none))) else (none))) else (none))) = some r := by first | (rw [hy114]; with_reducible exact H) | (have H2_ := (Option.bind_some _ _).symm.trans H; rw [hy114]; with_reducible exact H2_) | (have H2_ := (Option.bind_some _ _).symm.trans H; with_reducible exact H2_) | with_reducible exact H | (rw [hy114]; exact H) | exact H
                          have Ny114 := Aside0.mk hy114
                          clear hy114
                          obtain ⟨y115, hy115⟩ : ∃ y_ : List (S37), y_ = (([] : List (S37))) := ⟨_, rfl⟩
                          replace H : (if y115.length + l2.length < 2932031007402 then ((some (y115 ++ l2 : List (S37))).bind fun y118 => (if ji20 < (y118.length : Int) then ((some (([] : List (S37)) : List (S37))).bind fun y122 => (if y122.length + l2.length < 2932031007402 then ((some (y122 ++ l2 : List (S37))).bind fun y125 => ((some (([(⟨((rd_T37 l2 (ji20)).f0), ((rd_T37 l2 (ji20)).f1), wrap64 (Int.tmod a6 5), a0, false, false⟩ : S37)] : List (S37)) : List (S37))).bind fun y128 => (if y125.length + y128.length < 2932031007402 then (if t102 = true then ((lin_Check.f a0 a1 y114 a3 a4).bind fun t134 => (if t134 = true then ((lin_Check.f a0 a1 (y118.set (ji20 : Int).toNat (⟨(rd_T37 y118 ji20).f0, (rd_T37 y118 ji20).f1, (rd_T37 y118 ji20).f2, (rd_T37 y118 ji20).f3, (rd_T37 y118 ji20).f4, false⟩ : S37)) a3 a4).bind fun t135 => (if t135 = true then ((lin_Check.f a0 a1 (y125 ++ y128) a3 a4).bind fun t136 => (some t136)) else (none))) else (none))) else (none)) else (none)))) else (none))) else (none))) else (none)) = some r := by first | (rw [hy115]; with_reducible exact H) | (have H2_ := (Option.bind_some _ _).symm.trans H; rw [hy115]; with_reducible exact H2_) | (have H2_ := (Option.bind_some _ _).symm.trans H; with_reducible exact H2_) | with_reducible exact H | (rw [hy115]; exact H) | exact H
                          have Ny115 := Aside0.mk hy115
                          clear hy115
                          by_cases c39 : y115.length + l2.length < 2932031007402
                          · rw [if_pos c39] at H
                            have LMc39 := Aside0.mk c39
                            clear c39
                            obtain ⟨y118, hy118⟩ : ∃ y_ : List (S37), y_ = (y115 ++ l2) := ⟨_, rfl⟩
                            replace H : (if ji20 < (y118.length : Int) then ((some (([] : List (S37)) : List (S37))).bind fun y122 => (if y122.length + l2.length < 2932031007402 then ((some (y122 ++ l2 : List (S37))).bind fun y125 => ((some (([(⟨((rd_T37 l2 (ji20)).f0), ((rd_T37 l2 (ji20)).f1), wrap64 (Int.tmod a6 5), a0, false, false⟩ : S37)] : List (S37)) : List (S37))).bind fun y128 => (if y125.length + y128.length < 2932031007402 then (if t102 = true then ((lin_Check.f a0 a1 y114 a3 a4).bind fun t134 => (if t134 = true then ((lin_Check.f a0 a1 (y118.set (ji20 : Int).toNat (⟨(rd_T37 y118 ji20).f0, (rd_T37 y118 ji20).f1, (rd_T37 y118 ji20).f2, (rd_T37 y118 ji20).f3, (rd_T37 y118 ji20).f4, false⟩ : S37)) a3 a4).bind fun t135 => (if t135 = true then ((lin_Check.f a0 a1 (y125 ++ y128) a3 a4).bind fun t136 => (some t136)) else (none))) else (none))) else (none)) else (none)))) else (none))) else (none)) = some r := by first | (rw [hy118]; with_reducible exact H) | (have H2_ := (Option.bind_some _ _).symm.trans H; rw [hy118]; with_reducible exact H2_) | (have H2_ := (Option.bind_some _ _).symm.trans H; with_reducible exact H2_) | with_reducible exact H | (rw [hy118]; exact H) | exact H
                            have Ny118 := Aside0.mk hy118
                            clear hy118
                            by_cases c40 : ji20 < (y118.length : Int)
                            · rw [if_pos c40] at H
                              have c40b0 : decide (ji20 < (y118.length : Int)) = true := decide_eq_true c40
                              clear c40
                              obtain ⟨y121, hy121⟩ : ∃ y_ : List (S37), y_ = (y118.set (ji20 : Int).toNat (⟨(rd_T37 y118 ji20).f0, (rd_T37 y118 ji20).f1, (rd_T37 y118 ji20).f2, (rd_T37 y118 ji20).f3, (rd_T37 y118 ji20).f4, false⟩ : S37)) := ⟨_, rfl⟩
                              replace H : ((some (([] : List (S37)) : List (S37))).bind fun y122 => (if y122.length + l2.length < 2932031007402 then ((some (y122 ++ l2 : List (S37))).bind fun y125 => ((some (([(⟨((rd_T37 l2 (ji20)).f0), ((rd_T37 l2 (ji20)).f1), wrap64 (Int.tmod a6 5), a0, false, false⟩ : S37)] : List (S37)) : List (S37))).bind fun y128 => (if y125.length + y128.length < 2932031007402 then (if t102 = true then ((lin_Check.f a0 a1 y114 a3 a4).bind fun t134 => (if t134 = true then ((lin_Check.f a0 a1 y121 a3 a4).bind fun t135 => (if t135 = true then ((lin_Check.f a0 a1 (y125 ++ y128) a3 a4).bind fun t136 => (some t136)) else (none))) else (none))) else (none)) else (none)))) else (none))) = some r := by first | (rw [hy121]; with_reducible exact H) | (have H2_ := (Option.bind_some _ _).symm.trans H; rw [hy121]; with_reducible exact H2_) | (have H2_ := (Option.bind_some _ _).symm.trans H; with_reducible exact H2_) | with_reducible exact H | (rw [hy121]; exact H) | exact H
                              have Ny121 := Aside0.mk hy121
                              clear hy121
                              obtain ⟨y122, hy122⟩ : ∃ y_ : List (S37), y_ = (([] : List (S37))) := ⟨_, rfl⟩
                              replace H : (if y122.length + l2.length < 2932031007402 then ((some (y122 ++ l2 : List (S37))).bind fun y125 => ((some (([(⟨((rd_T37 l2 (ji20)).f0), ((rd_T37 l2 (ji20)).f1), wrap64 (Int.tmod a6 5), a0, false, false⟩ : S37)] : List (S37)) : List (S37))).bind fun y128 => (if y125.length + y128.length < 2932031007402 then (if t102 = true then ((lin_Check.f a0 a1 y114 a3 a4).bind fun t134 => (if t134 = true then ((lin_Check.f a0 a1 y121 a3 a4).bind fun t135 => (if t135 = true then ((lin_Check.f a0 a1 (y125 ++ y128) a3 a4).bind fun t136 => (some t136)) else (none))) else (none))) else (none)) else (none)))) else (none)) = some r := by first | (rw [hy122]; with_reducible exact H) | (have H2_ := (Option.bind_some _ _).symm.trans H; rw [hy122]; with_reducible exact H2_) | (have H2_ := (Option.bind_some _ _).symm.trans H; with_reducible exact H2_) | with_reducible exact H | (rw [hy122]; exact H) | exact H
                              have Ny122 := Aside0.mk hy122
                              clear hy122
                              by_cases c42 : y122.length + l2.length < 2932031007402
                              · rw [if_pos c42] at H
                                have LMc42 := Aside0.mk c42
                                clear c42
                                obtain ⟨y125, hy125⟩ : ∃ y_ : List (S37), y_ = (y122 ++ l2) := ⟨_, rfl⟩
                                replace H : ((some (([(⟨((rd_T37 l2 (ji20)).f0), ((rd_T37 l2 (ji20)).f1), wrap64 (Int.tmod a6 5), a0, false, false⟩ : S37)] : List (S37)) : List (S37))).bind fun y128 => (if y125.length + y128.length < 2932031007402 then (if t102 = true then ((lin_Check.f a0 a1 y114 a3 a4).bind fun t134 => (if t134 = true then ((lin_Check.f a0 a1 y121 a3 a4).bind fun t135 => (if t135 = true then ((lin_Check.f a0 a1 (y125 ++ y128) a3 a4).bind fun t136 => (some t136)) else (none))) else (none))) else (none)) else (none))) = some r := by first | (rw [hy125]; with_reducible exact H) | (have H2_ := (Option.bind_some _ _).symm.trans H; rw [hy125]; with_reducible exact H2_) | (have H2_ := (Option.bind_some _ _).symm.trans H; with_reducible exact H2_) | with_reducible exact H | (rw [hy125]; exact H) | exact H
                                have Ny125 := Aside0.mk hy125
                                clear hy125
                                obtain ⟨y128, hy128⟩ : ∃ y_ : List (S37), y_ = (([(⟨((rd_T37 l2 (ji20)).f0), ((rd_T37 l2 (ji20)).f1), wrap64 (Int.tmod a6 5), a0, false, false⟩ : S37)] : List (S37))) := ⟨_, rfl⟩
                                replace H : (if y125.length + y128.length < 2932031007402 then (if t102 = true then ((lin_Check.f a0 a1 y114 a3 a4).bind fun t134 => (if t134 = true then ((lin_Check.f a0 a1 y121 a3 a4).bind fun t135 => (if t135 = true then ((lin_Check.f a0 a1 (y125 ++ y128) a3 a4).bind fun t136 => (some t136)) else (none))) else (none))) else (none)) else (none)) = some r := by first | (rw [hy128]; with_reducible exact H) | (have H2_ := (Option.bind_some _ _).symm.trans H; rw [hy128]; with_reducible exact H2_) | (have H2_ := (Option.bind_some _ _).symm.trans H; with_reducible exact H2_) | with_reducible exact H | (rw [hy128]; exact H) | exact H
                                have Ny128 := Aside0.mk hy128
                                clear hy128
                                by_cases c43 : y125.length + y128.length < 2932031007402
                                · rw [if_pos c43] at H
                                  have LMc43 := Aside0.mk c43
                                  clear c43
                                  obtain ⟨y131, hy131⟩ : ∃ y_ : List (S37), y_ = (y125 ++ y128) := ⟨_, rfl⟩
                                  replace H : (if t102 = true then ((lin_Check.f a0 a1 y114 a3 a4).bind fun t134 => (if t134 = true then ((lin_Check.f a0 a1 y121 a3 a4).bind fun t135 => (if t135 = true then ((lin_Check.f a0 a1 y131 a3 a4).bind fun t136 => (some t136)) else (none))) else (none))) else (none)) = some r := by first | (rw [hy131]; with_reducible exact H) | (have H2_ := (Option.bind_some _ _).symm.trans H; rw [hy131]; with_reducible exact H2_) | (have H2_ := (Option.bind_some _ _).symm.trans H; with_reducible exact H2_) | with_reducible exact H | (rw [hy131]; exact H) | exact H
                                  have Ny131 := Aside0.mk hy131
                                  clear hy131
                                  by_cases c44 : t102 = true
                                  · subst c44
                                    have H1 : ((lin_Check.f a0 a1 y114 a3 a4).bind fun t134 => (if t134 = true then ((lin_Check.f a0 a1 y121 a3 a4).bind fun t135 => (if t135 = true then ((lin_Check.f a0 a1 y131 a3 a4).bind fun t136 => (some t136)) else (none))) else (none))) = some r := by rw [if_pos rfl] at H; exact H
                                    clear H
                                    have H := H1
                                    clear H1
                                    replace H := Option.bind_eq_some_iff.mp H
                                    obtain ⟨t134, A450, H⟩ := H
                                    replace H : (if t134 = true then ((lin_Check.f a0 a1 y121 a3 a4).bind fun t135 => (if t135 = true then ((lin_Check.f a0 a1 y131 a3 a4).bind fun t136 => (some t136)) else (none))) else (none)) = some r := H
                                    have A45 := Aside0.mk A450
                                    clear A450
                                    by_cases c46 : t134 = true
                                    · subst c46
                                      have H1 : ((lin_Check.f a0 a1 y121 a3 a4).bind fun t135 => (if t135 = true then ((lin_Check.f a0 a1 y131 a3 a4).bind fun t136 => (some t136)) else (none))) = some r := by rw [if_pos rfl] at H; exact H
                                      clear H
                                      have H := H1
                                      clear H1
                                      replace H := Option.bind_eq_some_iff.mp H
                                      obtain ⟨t135, A470, H⟩ := H
                                      replace H : (if t135 = true then ((lin_Check.f a0 a1 y131 a3 a4).bind fun t136 => (some t136)) else (none)) = some r := H
                                      have A47 := Aside0.mk A470
                                      clear A470
                                      by_cases c48 : t135 = true
                                      · subst c48
                                        have H1 : ((lin_Check.f a0 a1 y131 a3 a4).bind fun t136 => (some t136)) = some r := by rw [if_pos rfl] at H; exact H
                                        clear H
                                        have H := H1
                                        clear H1
                                        replace H := Option.bind_eq_some_iff.mp H
                                        obtain ⟨t136, A490, H⟩ := H
                                        replace H : (some t136) = some r := H
                                        have A49 := Aside0.mk A490
                                        clear A490
                                        obtain rfl := Option.some.inj H
                                        try go_wp2_with (first | ((with_reducible refine gate_dst (N := 78) rfl ?_); (try (refine gate_guard (by rfl) ?_; dsimp only)); refine Kd.R_lit k37 _ 37 ?hg (N := 78) ?hd (xs := ([] : List (S37))) (inner := []) (ok := fun _ => True) (okp := fun _ => True) ?hr ?hp (fun _ hk => hk) trivial (Below.refl _ _) (Nat.le_refl _) (by simp) ?_; (case hd => rfl); (case hg => rfl); (case hr => first | (go_simp; done) | (go_simp; rfl)); (case hp => exact (Reps.none _ _)); intro v108 w50 ho51 hb hg_ hnew_; clear hg_ hnew_; (first | rw [← Ny107.out] at ho51 | (simp only [Int.reduceToNat] at ho51; rw [← Ny107.out] at ho51)); have n0_ := Aside0.mk (Kd.R_lower (Kd.R_newB ho51 (g := gb106) (o := .cells #[.int .i64 ((rd_T37 l2 (ji20)).f0), .int .i64 ((rd_T37 l2 (ji20)).f1), .int .i64 ((rd_T37 l2 (ji20)).f2), .string ((rd_T37 l2 (ji20)).f3), .bool ((rd_T37 l2 (ji20)).f4), .bool ((rd_T37 l2 (ji20)).f5)] 37 (0, 0)) (by (with_reducible repeat (first | refine blk_drewN ?_ _ | refine blk_drew ?_ | refine blk_alloc ?_ _)); exact BK106.out)) (below_size (by repeat (first | (with_reducible first | exact HB.out | apply below_alloc | apply pw_below_drewN | apply below_drew1 | refine below_set ?_ GE106.out) | exact HB.out)))); have n1_ := Aside0.mk (blk_below (g := gb106) (o := .cells #[.int .i64 ((rd_T37 l2 (ji20)).f0), .int .i64 ((rd_T37 l2 (ji20)).f1), .int .i64 ((rd_T37 l2 (ji20)).f2), .string ((rd_T37 l2 (ji20)).f3), .bool ((rd_T37 l2 (ji20)).f4), .bool ((rd_T37 l2 (ji20)).f5)] 37 (0, 0)) (by (with_reducible repeat (first | refine blk_drewN ?_ _ | refine blk_drew ?_ | refine blk_alloc ?_ _)); exact BK106.out) hb); have n2_ := Aside0.mk (below_step (by repeat (first | (with_reducible first | exact HB.out | apply below_alloc | apply pw_below_drewN | apply below_drew1 | refine below_set ?_ GE106.out) | exact HB.out)) hb); clear BK106; clear HB; have HO109 := n0_; have BK106 := n1_; have HB := n2_; clear n0_ n1_ n2_; clear hb ho51) | ((with_reducible refine gate_builtin (b := .append) (xs := #[.tmp 78, .tmp 79]) rfl ?_); (try (refine gate_guard (by rfl) ?_; dsimp only)); at_builtin; refine Kd.R_append_rows k37 (w0 := w) w.heap.size rfl (.tmp 78) (.tmp 79) 22 37 (.agg #[(.int .i64 0), (.int .i64 0), (.int .i64 0), (.string ⟨#[]⟩), (.bool false), (.bool false)]) 48 rfl Try.underlying22 info37 rfl (by decide) (by omega) v108 y107 l2 _ _ _ (fun k_ => k_ ≠ gb106) (fun _ => False) rfl rfl ?aO ?aR (fun _ _ h => h) (fun _ h => h.elim) ?aF ?aB ?aS ?aL ?_; (case aR => repeat (first | exact (Kd.C_below HR2.out HB.out) | (with_reducible refine Kd.C_alloc ?_ _) | (with_reducible refine Kd.C_drewN ?_ _) | (with_reducible refine Kd.C_drew ?_))); (case aB => exact (by repeat (first | (with_reducible first | exact HB.out | apply below_alloc | apply pw_below_drewN | apply below_drew1 | refine below_set ?_ GE106.out) | exact HB.out))); (case aF => exact (fun k_ hk => Kd.freshB (g := gb106) (o := .cells #[.int .i64 ((rd_T37 l2 (ji20)).f0), .int .i64 ((rd_T37 l2 (ji20)).f1), .int .i64 ((rd_T37 l2 (ji20)).f2), .string ((rd_T37 l2 (ji20)).f3), .bool ((rd_T37 l2 (ji20)).f4), .bool ((rd_T37 l2 (ji20)).f5)] 37 (0, 0)) (by (with_reducible repeat (first | refine blk_drewN ?_ _ | refine blk_drew ?_ | refine blk_alloc ?_ _)); exact BK106.out) k_ hk)); (case aO => exact (by (with_reducible repeat (first | apply Kd.R_alloc | apply Kd.R_drewN | apply Kd.R_drew)); exact Kd.R_mono HO109.out (fun _ hk => hk.2))); (case aS => exact (below_size (by repeat (first | (with_reducible first | exact HB.out | apply below_alloc | apply pw_below_drewN | apply below_drew1 | refine below_set ?_ GE106.out) | exact HB.out)))); (case aL => have := LMc34.out; omega); intro v111 w52 ho hb hg hat; rw [← Ny110.out] at ho; have n0_ := Aside0.mk (blk_grown (g := gb106) (o := .cells #[.int .i64 ((rd_T37 l2 (ji20)).f0), .int .i64 ((rd_T37 l2 (ji20)).f1), .int .i64 ((rd_T37 l2 (ji20)).f2), .string ((rd_T37 l2 (ji20)).f3), .bool ((rd_T37 l2 (ji20)).f4), .bool ((rd_T37 l2 (ji20)).f5)] 37 (0, 0)) (by (with_reducible repeat (first | refine blk_drewN ?_ _ | refine blk_drew ?_ | refine blk_alloc ?_ _)); exact BK106.out) hg (Kd.R_away HO109.out (fun _ hk => hk.2))); have n1_ := Aside0.mk (hb); have n2_ := Aside0.mk (ho); clear BK106; clear HB; clear HO109; have BK106 := n0_; have HB := n1_; have HO112 := n2_; clear n0_ n1_ n2_; clear ho hb hg hat; have hcz53_0 : w52.cell? ⟨gb106, 0, none⟩ = some (.int .i64 ((rd_T37 l2 (ji20)).f0)) := (blk_cell BK106.out 0).trans rfl; have hcz53_1 : w52.cell? ⟨gb106, 1, none⟩ = some (.int .i64 ((rd_T37 l2 (ji20)).f1)) := (blk_cell BK106.out 1).trans rfl; have hcz53_2 : w52.cell? ⟨gb106, 2, none⟩ = some (.int .i64 ((rd_T37 l2 (ji20)).f2)) := (blk_cell BK106.out 2).trans rfl; have hcz53_3 : w52.cell? ⟨gb106, 3, none⟩ = some (.string ((rd_T37 l2 (ji20)).f3)) := (blk_cell BK106.out 3).trans rfl; have hcz53_4 : w52.cell? ⟨gb106, 4, none⟩ = some (.bool ((rd_T37 l2 (ji20)).f4)) := (blk_cell BK106.out 4).trans rfl; have hcz53_5 : w52.cell? ⟨gb106, 5, none⟩ = some (.bool ((rd_T37 l2 (ji20)).f5)) := (blk_cell BK106.out 5).trans rfl; have hfz53_0 := blk_frozen BK106.out 0; have hfz53_1 := blk_frozen BK106.out 1; have hfz53_2 := blk_frozen BK106.out 2; have hfz53_3 := blk_frozen BK106.out 3; have hfz53_4 := blk_frozen BK106.out 4; have hfz53_5 := blk_frozen BK106.out 5; have p37 : 0 ≤ (ji20 : Int) := of_decide_eq_true (by first | (with_reducible assumption) | assumption); have q37 : (ji20 : Int) < ((y110.length : Int) : Int) := of_decide_eq_true (by first | (with_reducible assumption) | assumption); obtain ⟨go37, co37, eo37, gb37, gl37, cl37, HG37⟩ := Kd.R_form HO112.out (by omega); (first | cases eo37 | (injection eo37 with ea_ en_ ec_; (first | subst ea_ | (injection ea_ with ea_; subst ea_)); subst ec_; clear en_)); have GB37 := Aside0.mk gb37; have GG37 := Aside0.mk HG37; clear gb37 gl37 HG37; obtain ⟨ce37, hcl37, hM37, hcc37, hfr37⟩ := Kd.R_elem HO112.out z37 (ji20 : Int) p37 q37; obtain rfl := k37_openM hM37; have hx37_0 : w52.cell? ⟨go37, (ji20 : Int).toNat * 6, none⟩ = some (.int .i64 ((rd_T37 y110 ji20).f0)) := hcc37 0 _ rfl; have hx37_1 : w52.cell? ⟨go37, (ji20 : Int).toNat * 6 + 1, none⟩ = some (.int .i64 ((rd_T37 y110 ji20).f1)) := hcc37 1 _ rfl; have hx37_2 : w52.cell? ⟨go37, (ji20 : Int).toNat * 6 + 2, none⟩ = some (.int .i64 ((rd_T37 y110 ji20).f2)) := hcc37 2 _ rfl; have hx37_3 : w52.cell? ⟨go37, (ji20 : Int).toNat * 6 + 3, none⟩ = some (.string ((rd_T37 y110 ji20).f3)) := hcc37 3 _ rfl; have hx37_4 : w52.cell? ⟨go37, (ji20 : Int).toNat * 6 + 4, none⟩ = some (.bool ((rd_T37 y110 ji20).f4)) := hcc37 4 _ rfl; have hx37_5 : w52.cell? ⟨go37, (ji20 : Int).toNat * 6 + 5, none⟩ = some (.bool ((rd_T37 y110 ji20).f5)) := hcc37 5 _ rfl; have hf37_0 : w52.frozen? ⟨go37, (ji20 : Int).toNat * 6, none⟩ = false := hfr37 0; have hf37_1 : w52.frozen? ⟨go37, (ji20 : Int).toNat * 6 + 1, none⟩ = false := hfr37 1; have hf37_2 : w52.frozen? ⟨go37, (ji20 : Int).toNat * 6 + 2, none⟩ = false := hfr37 2; have hf37_3 : w52.frozen? ⟨go37, (ji20 : Int).toNat * 6 + 3, none⟩ = false := hfr37 3; have hf37_4 : w52.frozen? ⟨go37, (ji20 : Int).toNat * 6 + 4, none⟩ = false := hfr37 4; have hf37_5 : w52.frozen? ⟨go37, (ji20 : Int).toNat * 6 + 5, none⟩ = false := hfr37 5; clear hcl37 hcc37 hfr37 hM37; replace p37 := eq_true p37; replace q37 := eq_true q37; have HX54 := Aside0.mk (show Kd.R k37 37 w52 w.heap.size (fun k_ => k_ ≠ gb106) (.slice (some ⟨go37, 0, none⟩) y110.length co37) y110 from (by (with_reducible repeat (first | apply Kd.R_alloc | apply Kd.R_drewN | apply Kd.R_drew)); exact HO112.out)); obtain ⟨ce54, hcl54, hM54, hcc54, hfr54⟩ := Kd.R_elem HX54.out z37 (ji20 : Int) (of_decide_eq_true (by first | (with_reducible assumption) | assumption)) (by have h_ : (ji20 : Int) < ((y110.length : Int) : Int) := of_decide_eq_true (by first | (with_reducible assumption) | assumption); first | exact h_ | (have e_ := (Kd.R_reads' HO112.out).1; omega) | simpa using h_); obtain rfl := k37_openM hM54; have HP54 := Kd.R_seg HX54.out (ji20 : Int) (of_decide_eq_true (by first | (with_reducible assumption) | assumption)) (by have h_ : (ji20 : Int) < ((y110.length : Int) : Int) := of_decide_eq_true (by first | (with_reducible assumption) | assumption); first | exact h_ | (have e_ := (Kd.R_reads' HO112.out).1; omega) | simpa using h_) (seg := [.int .i64 (wrap64 (((rd_T37 l2 (ji20)).f0) - (wrap64 (Int.tmod a6 50))))]) (j := 0) hcl54 hcc54 (show 1 ≤ 6 from by decide) (x' := (⟨wrap64 (((rd_T37 l2 (ji20)).f0) - (wrap64 (Int.tmod a6 50))), (rd_T37 y110 ji20).f1, (rd_T37 y110 ji20).f2, (rd_T37 y110 ji20).f3, (rd_T37 y110 ji20).f4, (rd_T37 y110 ji20).f5⟩ : S37)) (k37_mkM _ _ _ (⟨wrap64 (((rd_T37 l2 (ji20)).f0) - (wrap64 (Int.tmod a6 50))), (rd_T37 y110 ji20).f1, (rd_T37 y110 ji20).f2, (rd_T37 y110 ji20).f3, (rd_T37 y110 ji20).f4, (rd_T37 y110 ji20).f5⟩ : S37) ) (fun _ hk => hk); have hx54_0 := hcc54 0 _ rfl; (try simp only [show (k37).sz = 6 from rfl, Nat.mul_one, Nat.add_zero] at hx54_0); have hf54_0 := hfr54 0; (try simp only [show (k37).sz = 6 from rfl, Nat.mul_one, Nat.add_zero] at hf54_0); clear hcl54 hcc54 hfr54 hM54) | ((with_reducible refine gate_store (t := 3) (p := 90) rfl ?_); refine store_event (t := 3) (p := 90) (v := ?vo_w55) (w1 := (w52.setCell ⟨go37, (ji20 : Int).toNat * 6, none⟩ (.int .i64 (wrap64 (((rd_T37 l2 (ji20)).f0) - (wrap64 (Int.tmod a6 50))))))) ?hg ?ho ?hn ?hr ?_; (case ho => rfl); (case hg => rfl); (case hn => rfl); (case hr => first | (go_simp; done) | (go_simp; rfl)); intro w55 hw; have hg : w52.grownBy w55 (some go37) := (by rw [hw]; exact HP54.2); have hp_ : Kd.R k37 37 w55 w.heap.size (fun k_ => k_ ≠ gb106) (.slice (some ⟨go37, 0, none⟩) y110.length co37) y113 := (by rw [hw, Ny113.out]; exact HP54.1); clear HP54; have n0_ := Aside0.mk (blk_grown (g := gb106) (o := .cells #[.int .i64 ((rd_T37 l2 (ji20)).f0), .int .i64 ((rd_T37 l2 (ji20)).f1), .int .i64 ((rd_T37 l2 (ji20)).f2), .string ((rd_T37 l2 (ji20)).f3), .bool ((rd_T37 l2 (ji20)).f4), .bool ((rd_T37 l2 (ji20)).f5)] 37 (0, 0)) (by (with_reducible repeat (first | refine blk_drewN ?_ _ | refine blk_drew ?_ | refine blk_alloc ?_ _)); exact BK106.out) hg (Kd.R_away HO112.out (fun _ hk => hk))); have n1_ := Aside0.mk (hp_); have n2_ := Aside0.mk ((by rw [hw]; exact below_set (HB.out) GB37.out : Below w.heap.size w w55)); clear BK106; clear HO112; clear HB; have BK106 := n0_; have HO112 := n1_; have HB := n2_; clear n0_ n1_ n2_; clear hg hw hp_; have hcz56_0 : w55.cell? ⟨gb106, 0, none⟩ = some (.int .i64 ((rd_T37 l2 (ji20)).f0)) := (blk_cell BK106.out 0).trans rfl; have hcz56_1 : w55.cell? ⟨gb106, 1, none⟩ = some (.int .i64 ((rd_T37 l2 (ji20)).f1)) := (blk_cell BK106.out 1).trans rfl; have hcz56_2 : w55.cell? ⟨gb106, 2, none⟩ = some (.int .i64 ((rd_T37 l2 (ji20)).f2)) := (blk_cell BK106.out 2).trans rfl; have hcz56_3 : w55.cell? ⟨gb106, 3, none⟩ = some (.string ((rd_T37 l2 (ji20)).f3)) := (blk_cell BK106.out 3).trans rfl; have hcz56_4 : w55.cell? ⟨gb106, 4, none⟩ = some (.bool ((rd_T37 l2 (ji20)).f4)) := (blk_cell BK106.out 4).trans rfl; have hcz56_5 : w55.cell? ⟨gb106, 5, none⟩ = some (.bool ((rd_T37 l2 (ji20)).f5)) := (blk_cell BK106.out 5).trans rfl; have hfz56_0 := blk_frozen BK106.out 0; have hfz56_1 := blk_frozen BK106.out 1; have hfz56_2 := blk_frozen BK106.out 2; have hfz56_3 := blk_frozen BK106.out 3; have hfz56_4 := blk_frozen BK106.out 4; have hfz56_5 := blk_frozen BK106.out 5; have p38 : 0 ≤ (ji20 : Int) := of_decide_eq_true (by first | (with_reducible assumption) | assumption); have q38 : (ji20 : Int) < ((y110.length : Int) : Int) := of_decide_eq_true (by first | (with_reducible assumption) | assumption); obtain ⟨ce38, hcl38, hM38, hcc38, hfr38⟩ := Kd.R_elem HO112.out z37 (ji20 : Int) p38 q38; obtain rfl := k37_openM hM38; have hx38_0 : w55.cell? ⟨go37, (ji20 : Int).toNat * 6, none⟩ = some (.int .i64 ((rd_T37 y113 ji20).f0)) := hcc38 0 _ rfl; have hx38_1 : w55.cell? ⟨go37, (ji20 : Int).toNat * 6 + 1, none⟩ = some (.int .i64 ((rd_T37 y113 ji20).f1)) := hcc38 1 _ rfl; have hx38_2 : w55.cell? ⟨go37, (ji20 : Int).toNat * 6 + 2, none⟩ = some (.int .i64 ((rd_T37 y113 ji20).f2)) := hcc38 2 _ rfl; have hx38_3 : w55.cell? ⟨go37, (ji20 : Int).toNat * 6 + 3, none⟩ = some (.string ((rd_T37 y113 ji20).f3)) := hcc38 3 _ rfl; have hx38_4 : w55.cell? ⟨go37, (ji20 : Int).toNat * 6 + 4, none⟩ = some (.bool ((rd_T37 y113 ji20).f4)) := hcc38 4 _ rfl; have hx38_5 : w55.cell? ⟨go37, (ji20 : Int).toNat * 6 + 5, none⟩ = some (.bool ((rd_T37 y113 ji20).f5)) := hcc38 5 _ rfl; have hf38_0 : w55.frozen? ⟨go37, (ji20 : Int).toNat * 6, none⟩ = false := hfr38 0; have hf38_1 : w55.frozen? ⟨go37, (ji20 : Int).toNat * 6 + 1, none⟩ = false := hfr38 1; have hf38_2 : w55.frozen? ⟨go37, (ji20 : Int).toNat * 6 + 2, none⟩ = false := hfr38 2; have hf38_3 : w55.frozen? ⟨go37, (ji20 : Int).toNat * 6 + 3, none⟩ = false := hfr38 3; have hf38_4 : w55.frozen? ⟨go37, (ji20 : Int).toNat * 6 + 4, none⟩ = false := hfr38 4; have hf38_5 : w55.frozen? ⟨go37, (ji20 : Int).toNat * 6 + 5, none⟩ = false := hfr38 5; clear hcl38 hcc38 hfr38 hM38; replace p38 := eq_true p38; replace q38 := eq_true q38; have HX57 := Aside0.mk (show Kd.R k37 37 w55 w.heap.size (fun k_ => k_ ≠ gb106) (.slice (some ⟨go37, 0, none⟩) y110.length co37) y113 from (by (with_reducible repeat (first | apply Kd.R_alloc | apply Kd.R_drewN | apply Kd.R_drew)); exact HO112.out)); obtain ⟨ce57, hcl57, hM57, hcc57, hfr57⟩ := Kd.R_elem HX57.out z37 (ji20 : Int) (of_decide_eq_true (by first | (with_reducible assumption) | assumption)) (by have h_ : (ji20 : Int) < ((y110.length : Int) : Int) := of_decide_eq_true (by first | (with_reducible assumption) | assumption); first | exact h_ | (have e_ := (Kd.R_reads' HO112.out).1; omega) | simpa using h_); obtain rfl := k37_openM hM57; have HP57 := Kd.R_seg HX57.out (ji20 : Int) (of_decide_eq_true (by first | (with_reducible assumption) | assumption)) (by have h_ : (ji20 : Int) < ((y110.length : Int) : Int) := of_decide_eq_true (by first | (with_reducible assumption) | assumption); first | exact h_ | (have e_ := (Kd.R_reads' HO112.out).1; omega) | simpa using h_) (seg := [.int .i64 (wrap64 (((rd_T37 l2 (ji20)).f1) + (wrap64 (IntKind.u16.wrap (Int.tdiv a6 50)))))]) (j := 1) hcl57 hcc57 (show 2 ≤ 6 from by decide) (x' := (⟨(rd_T37 y113 ji20).f0, wrap64 (((rd_T37 l2 (ji20)).f1) + (wrap64 (IntKind.u16.wrap (Int.tdiv a6 50)))), (rd_T37 y113 ji20).f2, (rd_T37 y113 ji20).f3, (rd_T37 y113 ji20).f4, (rd_T37 y113 ji20).f5⟩ : S37)) (k37_mkM _ _ _ (⟨(rd_T37 y113 ji20).f0, wrap64 (((rd_T37 l2 (ji20)).f1) + (wrap64 (IntKind.u16.wrap (Int.tdiv a6 50)))), (rd_T37 y113 ji20).f2, (rd_T37 y113 ji20).f3, (rd_T37 y113 ji20).f4, (rd_T37 y113 ji20).f5⟩ : S37) ) (fun _ hk => hk); have hx57_1 := hcc57 1 _ rfl; (try simp only [show (k37).sz = 6 from rfl, Nat.mul_one, Nat.add_zero] at hx57_1); have hf57_1 := hfr57 1; (try simp only [show (k37).sz = 6 from rfl, Nat.mul_one, Nat.add_zero] at hf57_1); clear hcl57 hcc57 hfr57 hM57) | ((with_reducible refine gate_store (t := 3) (p := 100) rfl ?_); refine store_event (t := 3) (p := 100) (v := ?vo_w58) (w1 := (w55.setCell ⟨go37, (ji20 : Int).toNat * 6 + 1, none⟩ (.int .i64 (wrap64 (((rd_T37 l2 (ji20)).f1) + (wrap64 (IntKind.u16.wrap (Int.tdiv a6 50)))))))) ?hg ?ho ?hn ?hr ?_; (case ho => rfl); (case hg => rfl); (case hn => rfl); (case hr => first | (go_simp; done) | (go_simp; rfl)); intro w58 hw; have hg : w55.grownBy w58 (some go37) := (by rw [hw]; exact HP57.2); have hp_ : Kd.R k37 37 w58 w.heap.size (fun k_ => k_ ≠ gb106) (.slice (some ⟨go37, 0, none⟩) y110.length co37) y114 := (by rw [hw, Ny114.out]; exact HP57.1); clear HP57; have n0_ := Aside0.mk (blk_grown (g := gb106) (o := .cells #[.int .i64 ((rd_T37 l2 (ji20)).f0), .int .i64 ((rd_T37 l2 (ji20)).f1), .int .i64 ((rd_T37 l2 (ji20)).f2), .string ((rd_T37 l2 (ji20)).f3), .bool ((rd_T37 l2 (ji20)).f4), .bool ((rd_T37 l2 (ji20)).f5)] 37 (0, 0)) (by (with_reducible repeat (first | refine blk_drewN ?_ _ | refine blk_drew ?_ | refine blk_alloc ?_ _)); exact BK106.out) hg (Kd.R_away HO112.out (fun _ hk => hk))); have n1_ := Aside0.mk (hp_); have n2_ := Aside0.mk ((by rw [hw]; exact below_set (HB.out) GB37.out : Below w.heap.size w w58)); clear BK106; clear HO112; clear HB; have BK106 := n0_; have HO112 := n1_; have HB := n2_; clear n0_ n1_ n2_; clear hg hw hp_) | ((with_reducible refine gate_dst (N := 101) rfl ?_); (try (refine gate_guard (by rfl) ?_; dsimp only)); refine Kd.R_lit k37 _ 37 ?hg (N := 101) ?hd (xs := ([] : List (S37))) (inner := []) (ok := fun _ => True) (okp := fun _ => True) ?hr ?hp (fun _ hk => hk) trivial (Below.refl _ _) (Nat.le_refl _) (by simp) ?_; (case hd => rfl); (case hg => rfl); (case hr => first | (go_simp; done) | (go_simp; rfl)); (case hp => exact (Reps.none _ _)); intro v116 w59 ho60 hb hg_ hnew_; clear hg_ hnew_; (first | rw [← Ny115.out] at ho60 | (simp only [Int.reduceToNat] at ho60; rw [← Ny115.out] at ho60)); have n0_ := Aside0.mk (Kd.R_elder' (by (with_reducible repeat (first | apply Kd.R_alloc | apply Kd.R_drewN | apply Kd.R_drew)); exact HO112.out) (Kd.R_base ho60) hb); have n1_ := Aside0.mk (Kd.R_lower (Kd.R_newB (Kd.R_new' ho60 (Kd.R_lt (by (with_reducible repeat (first | apply Kd.R_alloc | apply Kd.R_drewN | apply Kd.R_drew)); exact HO112.out))) (g := gb106) (o := .cells #[.int .i64 ((rd_T37 l2 (ji20)).f0), .int .i64 ((rd_T37 l2 (ji20)).f1), .int .i64 ((rd_T37 l2 (ji20)).f2), .string ((rd_T37 l2 (ji20)).f3), .bool ((rd_T37 l2 (ji20)).f4), .bool ((rd_T37 l2 (ji20)).f5)] 37 (0, 0)) (by (with_reducible repeat (first | refine blk_drewN ?_ _ | refine blk_drew ?_ | refine blk_alloc ?_ _)); exact BK106.out)) (below_size (by repeat (first | (with_reducible first | exact HB.out | apply below_alloc | apply pw_below_drewN | apply below_drew1 | refine below_set ?_ GE106.out) | exact HB.out)))); have n2_ := Aside0.mk (blk_below (g := gb106) (o := .cells #[.int .i64 ((rd_T37 l2 (ji20)).f0), .int .i64 ((rd_T37 l2 (ji20)).f1), .int .i64 ((rd_T37 l2 (ji20)).f2), .string ((rd_T37 l2 (ji20)).f3), .bool ((rd_T37 l2 (ji20)).f4), .bool ((rd_T37 l2 (ji20)).f5)] 37 (0, 0)) (by (with_reducible repeat (first | refine blk_drewN ?_ _ | refine blk_drew ?_ | refine blk_alloc ?_ _)); exact BK106.out) hb); have n3_ := Aside0.mk (below_step (by repeat (first | (with_reducible first | exact HB.out | apply below_alloc | apply pw_below_drewN | apply below_drew1 | refine below_set ?_ GE106.out) | exact HB.out)) hb); clear HO112; clear BK106; clear HB; have HO112 := n0_; have HO117 := n1_; have BK106 := n2_; have HB := n3_; clear n0_ n1_ n2_ n3_; clear hb ho60) | ((with_reducible refine gate_builtin (b := .append) (xs := #[.tmp 101, .tmp 102]) rfl ?_); (try (refine gate_guard (by rfl) ?_; dsimp only)); at_builtin; refine Kd.R_append_rows k37 (w0 := w) w.heap.size rfl (.tmp 101) (.tmp 102) 22 37 (.agg #[(.int .i64 0), (.int .i64 0), (.int .i64 0), (.string ⟨#[]⟩), (.bool false), (.bool false)]) 48 rfl Try.underlying22 info37 rfl (by decide) (by omega) v116 y115 l2 _ _ _ (fun k_ => some k_ ≠ (.slice (some ⟨go37, 0, none⟩) y110.length co37 : Value).ownBlock ∧ k_ ≠ gb106) (fun _ => False) rfl rfl ?aO ?aR (fun _ _ h => h) (fun _ h => h.elim) ?aF ?aB ?aS ?aL ?_; (case aR => repeat (first | exact (Kd.C_below HR2.out HB.out) | (with_reducible refine Kd.C_alloc ?_ _) | (with_reducible refine Kd.C_drewN ?_ _) | (with_reducible refine Kd.C_drew ?_))); (case aB => exact (by repeat (first | (with_reducible first | exact HB.out | apply below_alloc | apply pw_below_drewN | apply below_drew1 | refine below_set ?_ GE106.out) | exact HB.out))); (case aF => exact (fun k_ hk => ⟨Kd.fresh' (Kd.R_lt (by (with_reducible repeat (first | apply Kd.R_alloc | apply Kd.R_drewN | apply Kd.R_drew)); exact HO112.out)) k_ hk, Kd.freshB (g := gb106) (o := .cells #[.int .i64 ((rd_T37 l2 (ji20)).f0), .int .i64 ((rd_T37 l2 (ji20)).f1), .int .i64 ((rd_T37 l2 (ji20)).f2), .string ((rd_T37 l2 (ji20)).f3), .bool ((rd_T37 l2 (ji20)).f4), .bool ((rd_T37 l2 (ji20)).f5)] 37 (0, 0)) (by (with_reducible repeat (first | refine blk_drewN ?_ _ | refine blk_drew ?_ | refine blk_alloc ?_ _)); exact BK106.out) k_ hk⟩)); (case aO => exact (by (with_reducible repeat (first | apply Kd.R_alloc | apply Kd.R_drewN | apply Kd.R_drew)); exact Kd.R_mono HO117.out (fun _ hk => ⟨hk.1.2, hk.2⟩))); (case aS => exact (below_size (by repeat (first | (with_reducible first | exact HB.out | apply below_alloc | apply pw_below_drewN | apply below_drew1 | refine below_set ?_ GE106.out) | exact HB.out)))); (case aL => have := LMc39.out; omega); intro v119 w61 ho hb hg hat; rw [← Ny118.out] at ho; have n0_ := Aside0.mk (blk_grown (g := gb106) (o := .cells #[.int .i64 ((rd_T37 l2 (ji20)).f0), .int .i64 ((rd_T37 l2 (ji20)).f1), .int .i64 ((rd_T37 l2 (ji20)).f2), .string ((rd_T37 l2 (ji20)).f3), .bool ((rd_T37 l2 (ji20)).f4), .bool ((rd_T37 l2 (ji20)).f5)] 37 (0, 0)) (by (with_reducible repeat (first | refine blk_drewN ?_ _ | refine blk_drew ?_ | refine blk_alloc ?_ _)); exact BK106.out) hg (Kd.R_away HO117.out (fun _ hk => hk.2))); have n1_ := Aside0.mk (Kd.R_after (ok := (fun k_ => k_ ≠ gb106)) (by (with_reducible repeat (first | apply Kd.R_alloc | apply Kd.R_drewN | apply Kd.R_drew)); exact HO112.out) hg hat); have n2_ := Aside0.mk (hb); have n3_ := Aside0.mk (ho); clear BK106; clear HO112; clear HB; clear HO117; have BK106 := n0_; have HO112 := n1_; have HB := n2_; have HO120 := n3_; clear n0_ n1_ n2_ n3_; clear ho hb hg hat; have p41 : 0 ≤ (ji20 : Int) := of_decide_eq_true (by first | (with_reducible assumption) | assumption); have q41 : (ji20 : Int) < ((y118.length : Int) : Int) := of_decide_eq_true (by first | (with_reducible assumption) | assumption); obtain ⟨go41, co41, eo41, gb41, gl41, cl41, HG41⟩ := Kd.R_form HO120.out (by omega); (first | cases eo41 | (injection eo41 with ea_ en_ ec_; (first | subst ea_ | (injection ea_ with ea_; subst ea_)); subst ec_; clear en_)); have GB41 := Aside0.mk gb41; have GG41 := Aside0.mk HG41; clear gb41 gl41 HG41; obtain ⟨ce41, hcl41, hM41, hcc41, hfr41⟩ := Kd.R_elem HO120.out z37 (ji20 : Int) p41 q41; obtain rfl := k37_openM hM41; have hx41_0 : w61.cell? ⟨go41, (ji20 : Int).toNat * 6, none⟩ = some (.int .i64 ((rd_T37 y118 ji20).f0)) := hcc41 0 _ rfl; have hx41_1 : w61.cell? ⟨go41, (ji20 : Int).toNat * 6 + 1, none⟩ = some (.int .i64 ((rd_T37 y118 ji20).f1)) := hcc41 1 _ rfl; have hx41_2 : w61.cell? ⟨go41, (ji20 : Int).toNat * 6 + 2, none⟩ = some (.int .i64 ((rd_T37 y118 ji20).f2)) := hcc41 2 _ rfl; have hx41_3 : w61.cell? ⟨go41, (ji20 : Int).toNat * 6 + 3, none⟩ = some (.string ((rd_T37 y118 ji20).f3)) := hcc41 3 _ rfl; have hx41_4 : w61.cell? ⟨go41, (ji20 : Int).toNat * 6 + 4, none⟩ = some (.bool ((rd_T37 y118 ji20).f4)) := hcc41 4 _ rfl; have hx41_5 : w61.cell? ⟨go41, (ji20 : Int).toNat * 6 + 5, none⟩ = some (.bool ((rd_T37 y118 ji20).f5)) := hcc41 5 _ rfl; have hf41_0 : w61.frozen? ⟨go41, (ji20 : Int).toNat * 6, none⟩ = false := hfr41 0; have hf41_1 : w61.frozen? ⟨go41, (ji20 : Int).toNat * 6 + 1, none⟩ = false := hfr41 1; have hf41_2 : w61.frozen? ⟨go41, (ji20 : Int).toNat * 6 + 2, none⟩ = false := hfr41 2; have hf41_3 : w61.frozen? ⟨go41, (ji20 : Int).toNat * 6 + 3, none⟩ = false := hfr41 3; have hf41_4 : w61.frozen? ⟨go41, (ji20 : Int).toNat * 6 + 4, none⟩ = false := hfr41 4; have hf41_5 : w61.frozen? ⟨go41, (ji20 : Int).toNat * 6 + 5, none⟩ = false := hfr41 5; clear hcl41 hcc41 hfr41 hM41; replace p41 := eq_true p41; replace q41 := eq_true q41; have HX62 := Aside0.mk (show Kd.R k37 37 w61 w.heap.size (fun k_ => some k_ ≠ (.slice (some ⟨go37, 0, none⟩) y110.length co37 : Value).ownBlock ∧ k_ ≠ gb106) (.slice (some ⟨go41, 0, none⟩) y118.length co41) y118 from (by (with_reducible repeat (first | apply Kd.R_alloc | apply Kd.R_drewN | apply Kd.R_drew)); exact HO120.out)); obtain ⟨ce62, hcl62, hM62, hcc62, hfr62⟩ := Kd.R_elem HX62.out z37 (ji20 : Int) (of_decide_eq_true (by first | (with_reducible assumption) | assumption)) (by have h_ : (ji20 : Int) < ((y118.length : Int) : Int) := of_decide_eq_true (by first | (with_reducible assumption) | assumption); first | exact h_ | (have e_ := (Kd.R_reads' HO120.out).1; omega) | simpa using h_); obtain rfl := k37_openM hM62; have HP62 := Kd.R_seg HX62.out (ji20 : Int) (of_decide_eq_true (by first | (with_reducible assumption) | assumption)) (by have h_ : (ji20 : Int) < ((y118.length : Int) : Int) := of_decide_eq_true (by first | (with_reducible assumption) | assumption); first | exact h_ | (have e_ := (Kd.R_reads' HO120.out).1; omega) | simpa using h_) (seg := [.bool false]) (j := 5) hcl62 hcc62 (show 6 ≤ 6 from by decide) (x' := (⟨(rd_T37 y118 ji20).f0, (rd_T37 y118 ji20).f1, (rd_T37 y118 ji20).f2, (rd_T37 y118 ji20).f3, (rd_T37 y118 ji20).f4, false⟩ : S37)) (k37_mkM _ _ _ (⟨(rd_T37 y118 ji20).f0, (rd_T37 y118 ji20).f1, (rd_T37 y118 ji20).f2, (rd_T37 y118 ji20).f3, (rd_T37 y118 ji20).f4, false⟩ : S37) ) (fun _ hk => hk); have hx62_5 := hcc62 5 _ rfl; (try simp only [show (k37).sz = 6 from rfl, Nat.mul_one, Nat.add_zero] at hx62_5); have hf62_5 := hfr62 5; (try simp only [show (k37).sz = 6 from rfl, Nat.mul_one, Nat.add_zero] at hf62_5); clear hcl62 hcc62 hfr62 hM62) | ((with_reducible refine gate_store (t := 4) (p := 107) rfl ?_); refine store_event (t := 4) (p := 107) (v := ?vo_w63) (w1 := (w61.setCell ⟨go41, (ji20 : Int).toNat * 6 + 5, none⟩ (.bool false))) ?hg ?ho ?hn ?hr ?_; (case ho => rfl); (case hg => rfl); (case hn => rfl); (case hr => first | (go_simp; done) | (go_simp; rfl)); intro w63 hw; have hg : w61.grownBy w63 (some go41) := (by rw [hw]; exact HP62.2); have hp_ : Kd.R k37 37 w63 w.heap.size (fun k_ => some k_ ≠ (.slice (some ⟨go37, 0, none⟩) y110.length co37 : Value).ownBlock ∧ k_ ≠ gb106) (.slice (some ⟨go41, 0, none⟩) y118.length co41) y121 := (by rw [hw, Ny121.out]; exact HP62.1); clear HP62; have n0_ := Aside0.mk (blk_grown (g := gb106) (o := .cells #[.int .i64 ((rd_T37 l2 (ji20)).f0), .int .i64 ((rd_T37 l2 (ji20)).f1), .int .i64 ((rd_T37 l2 (ji20)).f2), .string ((rd_T37 l2 (ji20)).f3), .bool ((rd_T37 l2 (ji20)).f4), .bool ((rd_T37 l2 (ji20)).f5)] 37 (0, 0)) (by (with_reducible repeat (first | refine blk_drewN ?_ _ | refine blk_drew ?_ | refine blk_alloc ?_ _)); exact BK106.out) hg (Kd.R_away HO120.out (fun _ hk => hk.2))); have n1_ := Aside0.mk (Kd.R_after (v := (.slice (some ⟨go41, 0, none⟩) y118.length co41)) (v1 := (.slice (some ⟨go41, 0, none⟩) y118.length co41)) (ok := (fun k_ => k_ ≠ gb106)) (by (with_reducible repeat (first | apply Kd.R_alloc | apply Kd.R_drewN | apply Kd.R_drew)); exact HO112.out) hg (.inl rfl)); have n2_ := Aside0.mk (hp_); have n3_ := Aside0.mk ((by rw [hw]; exact below_set (HB.out) GB41.out : Below w.heap.size w w63)); clear BK106; clear HO112; clear HO120; clear HB; have BK106 := n0_; have HO112 := n1_; have HO120 := n2_; have HB := n3_; clear n0_ n1_ n2_ n3_; clear hg hw hp_))
                                        have n0_ := Aside0.mk (Kd.R_drew HO112.out)
                                        have n1_ := Aside0.mk (Kd.R_drew HO120.out)
                                        have n2_ := Aside0.mk (blk_drew BK106.out)
                                        have n3_ := Aside0.mk (below_drew1 HB.out)
                                        clear HO112
                                        clear HO120
                                        clear BK106
                                        clear HB
                                        have HO112 := n0_
                                        have HO120 := n1_
                                        have BK106 := n2_
                                        have HB := n3_
                                        clear n0_ n1_ n2_ n3_
                                        refine start_ (n := 15) (S := fun w' => w'.cell? ⟨gb106, 0, none⟩ = some (.int .i64 ((rd_T37 l2 (ji20)).f0)) ∧ w'.cell? ⟨gb106, 1, none⟩ = some (.int .i64 ((rd_T37 l2 (ji20)).f1)) ∧ w'.cell? ⟨gb106, 2, none⟩ = some (.int .i64 ((rd_T37 l2 (ji20)).f2)) ∧ w'.cell? ⟨gb106, 3, none⟩ = some (.string ((rd_T37 l2 (ji20)).f3)) ∧ w'.cell? ⟨gb106, 4, none⟩ = some (.bool ((rd_T37 l2 (ji20)).f4)) ∧ w'.cell? ⟨gb106, 5, none⟩ = some (.bool ((rd_T37 l2 (ji20)).f5))) (ds := []) #[false, false, false, false, false, false, false, false, false, false, false, false, false, false, false] (by kernel_rfl) rfl rfl ⟨(blk_cell BK106.out 0).trans rfl, (blk_cell BK106.out 1).trans rfl, (blk_cell BK106.out 2).trans rfl, (blk_cell BK106.out 3).trans rfl, (blk_cell BK106.out 4).trans rfl, (blk_cell BK106.out 5).trans rfl⟩ (fun hHeld => ?_); refine with_tabW lamplighterlaw22_LinMore.tab13 lamplighterlaw22_LinMore.bits13 (fun HT_ HW_ => ?_)
                                        generalize w63.drew = w64 at HO112 HO120 BK106 HB hHeld ⊢
                                        refine pure_ (i := 1) (N := some 109) (v := ?_) (a' := ?_) #[false, true, false, false, false, false, false, false, false, false, false, false, false, false, false] rfl rfl (any_of HT_.out (by kernel_rfl)) (fun _ _ _ h => h) (Or.inl ⟨by rfl, ?_⟩) ?_ ?_
                                        rotate_left
                                        · intro w'
                                          go_simp
                                          with_reducible rfl
                                        rotate_left
                                        · simp only [Act.put, List.setIfInBounds_toArray, List.set_cons_zero, List.set_cons_succ, i64_w, i32_w]
                                          rfl
                                        refine pure_ (i := 3) (N := some 111) (v := ?_) (a' := ?_) #[false, true, false, true, false, false, false, false, false, false, false, false, false, false, false] rfl rfl (any_of HT_.out (by kernel_rfl)) (fun _ _ _ h => h) (Or.inl ⟨by rfl, ?_⟩) ?_ ?_
                                        rotate_left
                                        · intro w'
                                          go_simp
                                          with_reducible rfl
                                        rotate_left
                                        · simp only [Act.put, List.setIfInBounds_toArray, List.set_cons_zero, List.set_cons_succ, i64_w, i32_w]
                                          rfl
                                        refine pure_ (i := 5) (N := some 113) (v := ?_) (a' := ?_) #[false, true, false, true, false, true, false, false, false, false, false, false, false, false, false] rfl rfl (any_of HT_.out (by kernel_rfl)) (fun _ _ _ h => h) (Or.inl ⟨by rfl, ?_⟩) ?_ ?_
                                        rotate_left
                                        · intro w'
                                          go_simp
                                          with_reducible rfl
                                        rotate_left
                                        · simp only [Act.put, List.setIfInBounds_toArray, List.set_cons_zero, List.set_cons_succ, i64_w, i32_w]
                                          rfl
                                        refine pure_ (i := 7) (N := some 115) (v := ?_) (a' := ?_) #[false, true, false, true, false, true, false, true, false, false, false, false, false, false, false] rfl rfl (any_of HT_.out (by kernel_rfl)) (fun _ _ _ h => h) (Or.inl ⟨by rfl, ?_⟩) ?_ ?_
                                        rotate_left
                                        · intro w'
                                          go_simp
                                          with_reducible rfl
                                        rotate_left
                                        · simp only [Act.put, List.setIfInBounds_toArray, List.set_cons_zero, List.set_cons_succ, i64_w, i32_w]
                                          rfl
                                        refine pure_ (i := 8) (N := some 116) (v := ?_) (a' := ?_) #[false, true, false, true, false, true, false, true, true, false, false, false, false, false, false] rfl rfl (any_of HT_.out (by kernel_rfl)) (fun _ _ _ h => h) (Or.inl ⟨by rfl, ?_⟩) ?_ ?_
                                        rotate_left
                                        · intro w'
                                          go_simp
                                          with_reducible rfl
                                        rotate_left
                                        · simp only [Act.put, List.setIfInBounds_toArray, List.set_cons_zero, List.set_cons_succ, i64_w, i32_w]
                                          rfl
                                        refine pure_ (i := 9) (N := some 117) (v := ?_) (a' := ?_) #[false, true, false, true, false, true, false, true, true, true, false, false, false, false, false] rfl rfl (any_of HT_.out (by kernel_rfl)) (fun _ _ _ h => h) (Or.inl ⟨by rfl, ?_⟩) ?_ ?_
                                        rotate_left
                                        · intro w'
                                          go_simp
                                          with_reducible rfl
                                        rotate_left
                                        · simp only [Act.put, List.setIfInBounds_toArray, List.set_cons_zero, List.set_cons_succ, i64_w, i32_w]
                                          rfl
                                        refine pure_ (i := 10) (N := some 118) (v := ?_) (a' := ?_) #[false, true, false, true, false, true, false, true, true, true, true, false, false, false, false] rfl rfl (any_of HT_.out (by kernel_rfl)) (fun _ _ _ h => h) (Or.inl ⟨by rfl, ?_⟩) ?_ ?_
                                        rotate_left
                                        · intro w'
                                          go_simp
                                          with_reducible rfl
                                        rotate_left
                                        · simp only [Act.put, List.setIfInBounds_toArray, List.set_cons_zero, List.set_cons_succ, i64_w, i32_w]
                                          rfl
                                        refine take_ (i := 4) (N := some 112) (v := ?_) (a' := ?_) #[false, true, false, true, true, true, false, true, true, true, true, false, false, false, false] rfl rfl (take_ofW HT_.out HW_.out (by kernel_rfl)) (fun _ _ _ h => h) (Or.inl ⟨by rfl, ?_⟩) hHeld ?_ ?_
                                        rotate_left
                                        · rintro w' ⟨s0, s1, s2, s3, s4, s5⟩
                                          go_simp
                                          with_reducible rfl
                                        rotate_left
                                        · simp only [Act.put, List.setIfInBounds_toArray, List.set_cons_zero, List.set_cons_succ, i64_w, i32_w]
                                          rfl
                                        refine take_ (i := 6) (N := some 114) (v := ?_) (a' := ?_) #[false, true, false, true, true, true, true, true, true, true, true, false, false, false, false] rfl rfl (take_ofW HT_.out HW_.out (by kernel_rfl)) (fun _ _ _ h => h) (Or.inl ⟨by rfl, ?_⟩) hHeld ?_ ?_
                                        rotate_left
                                        · rintro w' ⟨s0, s1, s2, s3, s4, s5⟩
                                          go_simp
                                          with_reducible rfl
                                        rotate_left
                                        · simp only [Act.put, List.setIfInBounds_toArray, List.set_cons_zero, List.set_cons_succ, i64_w, i32_w]
                                          rfl
                                        refine pure_ (i := 11) (N := some 119) (v := ?_) (a' := ?_) #[false, true, false, true, true, true, true, true, true, true, true, true, false, false, false] rfl rfl (any_of HT_.out (by kernel_rfl)) (fun _ _ _ h => h) (Or.inl ⟨by rfl, ?_⟩) ?_ ?_
                                        rotate_left
                                        · intro w'
                                          go_simp
                                          with_reducible rfl
                                        rotate_left
                                        · simp only [Act.put, List.setIfInBounds_toArray, List.set_cons_zero, List.set_cons_succ, i64_w, i32_w]
                                          rfl
                                        refine join_ (σ := Value × Value × Value) 2 #[true, true, true, true, true, true, true, true, true, true, true, true, true, false, false] (fun s_ => [(108, s_.1), (110, s_.2.1), (120, s_.2.2)]) (fun s_ w' => (w'.cell? ⟨gb106, 0, none⟩ = some (.int .i64 ((rd_T37 l2 (ji20)).f0)) ∧ w'.cell? ⟨gb106, 1, none⟩ = some (.int .i64 ((rd_T37 l2 (ji20)).f1)) ∧ w'.cell? ⟨gb106, 2, none⟩ = some (.int .i64 ((rd_T37 l2 (ji20)).f2)) ∧ w'.cell? ⟨gb106, 3, none⟩ = some (.string ((rd_T37 l2 (ji20)).f3)) ∧ w'.cell? ⟨gb106, 4, none⟩ = some (.bool ((rd_T37 l2 (ji20)).f4)) ∧ w'.cell? ⟨gb106, 5, none⟩ = some (.bool ((rd_T37 l2 (ji20)).f5))) ∧ (Kd.R k37 37 w' w.heap.size (fun k_ => some k_ ≠ (.slice (some ⟨go41, 0, none⟩) y118.length co41 : Value).ownBlock ∧ some k_ ≠ (s_.2.1 : Value).ownBlock ∧ some k_ ≠ (s_.2.2 : Value).ownBlock ∧ k_ ≠ gb106) (.slice (some ⟨go37, 0, none⟩) y110.length co37) y114) ∧ (Kd.R k37 37 w' w.heap.size (fun k_ => some k_ ≠ (.slice (some ⟨go37, 0, none⟩) y110.length co37 : Value).ownBlock ∧ some k_ ≠ (s_.2.1 : Value).ownBlock ∧ some k_ ≠ (s_.2.2 : Value).ownBlock ∧ k_ ≠ gb106) (.slice (some ⟨go41, 0, none⟩) y118.length co41) y121) ∧ (Kd.R k37 37 w' w.heap.size (fun k_ => some k_ ≠ (.slice (some ⟨go37, 0, none⟩) y110.length co37 : Value).ownBlock ∧ some k_ ≠ (.slice (some ⟨go41, 0, none⟩) y118.length co41 : Value).ownBlock ∧ some k_ ≠ (s_.2.2 : Value).ownBlock ∧ k_ ≠ gb106) s_.2.1 y125) ∧ (Kd.R k37 37 w' w.heap.size (fun k_ => some k_ ≠ (.slice (some ⟨go37, 0, none⟩) y110.length co37 : Value).ownBlock ∧ some k_ ≠ (.slice (some ⟨go41, 0, none⟩) y118.length co41 : Value).ownBlock ∧ some k_ ≠ (s_.2.1 : Value).ownBlock ∧ k_ ≠ gb106) s_.2.2 y128) ∧ (w'.heap[gb106]? = some (.cells #[.int .i64 ((rd_T37 l2 (ji20)).f0), .int .i64 ((rd_T37 l2 (ji20)).f1), .int .i64 ((rd_T37 l2 (ji20)).f2), .string ((rd_T37 l2 (ji20)).f3), .bool ((rd_T37 l2 (ji20)).f4), .bool ((rd_T37 l2 (ji20)).f5)] 37 (0, 0))) ∧ (Below w.heap.size w w')) ?_ ?_
                                        rotate_left
                                        · intro hCont
                                          refine two_ (i := 0) (j := 12) (Ni := some 108) (Nj := some 120) #[true, true, false, true, true, true, true, true, true, true, true, true, false, false, false] #[false, true, false, true, true, true, true, true, true, true, true, true, true, false, false] rfl rfl rfl rfl (two_of HT_.out (by kernel_rfl)) (by decide) (by decide) (fun K hK => ?_) (fun K hK => ?_)
                                          · skip
                                            refine Kd.R_lit_step k37 _ 37 ?hg (N := 108) ?hd (xs := ([] : List (S37))) (inner := []) (ok := fun _ => True) (okp := fun _ => True) ?hr ?hp (fun _ hk => hk) trivial (Below.refl _ _) (Nat.le_refl _) (by simp) ?_; (case hd => rfl); (case hg => rfl); (case hr => first | (go_simp; done) | (go_simp; rfl)); (case hp => exact (Reps.none _ _))
                                            intro v123 w65 ho66 hb hg_ hnew_
                                            clear hg_ hnew_
                                            (first | rw [← Ny122.out] at ho66 | (simp only [Int.reduceToNat] at ho66; rw [← Ny122.out] at ho66))
                                            have n0_ := Aside0.mk (Kd.R_elder' (by (with_reducible repeat (first | apply Kd.R_alloc | apply Kd.R_drewN | apply Kd.R_drew)); exact HO112.out) (Kd.R_base ho66) hb)
                                            have n1_ := Aside0.mk (Kd.R_elder' (by (with_reducible repeat (first | apply Kd.R_alloc | apply Kd.R_drewN | apply Kd.R_drew)); exact HO120.out) (Kd.R_base ho66) hb)
                                            have n2_ := Aside0.mk (Kd.R_lower (Kd.R_newB (Kd.R_new' (Kd.R_new' ho66 (Kd.R_lt (by (with_reducible repeat (first | apply Kd.R_alloc | apply Kd.R_drewN | apply Kd.R_drew)); exact HO112.out))) (Kd.R_lt (by (with_reducible repeat (first | apply Kd.R_alloc | apply Kd.R_drewN | apply Kd.R_drew)); exact HO120.out))) (g := gb106) (o := .cells #[.int .i64 ((rd_T37 l2 (ji20)).f0), .int .i64 ((rd_T37 l2 (ji20)).f1), .int .i64 ((rd_T37 l2 (ji20)).f2), .string ((rd_T37 l2 (ji20)).f3), .bool ((rd_T37 l2 (ji20)).f4), .bool ((rd_T37 l2 (ji20)).f5)] 37 (0, 0)) (by (with_reducible repeat (first | refine blk_drewN ?_ _ | refine blk_drew ?_ | refine blk_alloc ?_ _)); exact BK106.out)) (below_size (by repeat (first | (with_reducible first | exact HB.out | apply below_alloc | apply pw_below_drewN | apply below_drew1 | refine below_set ?_ GE106.out) | exact HB.out))))
                                            have n3_ := Aside0.mk (blk_below (g := gb106) (o := .cells #[.int .i64 ((rd_T37 l2 (ji20)).f0), .int .i64 ((rd_T37 l2 (ji20)).f1), .int .i64 ((rd_T37 l2 (ji20)).f2), .string ((rd_T37 l2 (ji20)).f3), .bool ((rd_T37 l2 (ji20)).f4), .bool ((rd_T37 l2 (ji20)).f5)] 37 (0, 0)) (by (with_reducible repeat (first | refine blk_drewN ?_ _ | refine blk_drew ?_ | refine blk_alloc ?_ _)); exact BK106.out) hb)
                                            have n4_ := Aside0.mk (below_step (by repeat (first | (with_reducible first | exact HB.out | apply below_alloc | apply pw_below_drewN | apply below_drew1 | refine below_set ?_ GE106.out) | exact HB.out)) hb)
                                            clear HO112
                                            clear HO120
                                            clear BK106
                                            clear HB
                                            have HO112 := n0_
                                            have HO120 := n1_
                                            have HO124 := n2_
                                            have BK106 := n3_
                                            have HB := n4_
                                            clear n0_ n1_ n2_ n3_ n4_
                                            clear hb ho66
                                            refine hK.out _ _ ⟨(blk_cell BK106.out 0).trans rfl, (blk_cell BK106.out 1).trans rfl, (blk_cell BK106.out 2).trans rfl, (blk_cell BK106.out 3).trans rfl, (blk_cell BK106.out 4).trans rfl, (blk_cell BK106.out 5).trans rfl⟩ (fun hHeld => ?_)
                                            clear hK K
                                            refine norm_ (a' := ?_) ?_ ?_
                                            rotate_left
                                            · show Act.put _ (some 108) _ = _
                                              simp only [Act.put, List.setIfInBounds_toArray, List.set_cons_zero, List.set_cons_succ, i64_w, i32_w]
                                              rfl
                                            refine two_ (i := 2) (j := 12) (Ni := some 110) (Nj := some 120) #[true, true, true, true, true, true, true, true, true, true, true, true, false, false, false] #[true, true, false, true, true, true, true, true, true, true, true, true, true, false, false] rfl rfl rfl rfl (two_of HT_.out (by kernel_rfl)) (by decide) (by decide) (fun K hK => ?_) (fun K hK => ?_)
                                            · skip
                                              refine Kd.R_append_rows_step k37 (w0 := w) w.heap.size (by rfl) (.tmp 108) (.tmp 109) 22 37 (.agg #[(.int .i64 0), (.int .i64 0), (.int .i64 0), (.string ⟨#[]⟩), (.bool false), (.bool false)]) 48 rfl Try.underlying22 info37 rfl (by decide) (by omega) v123 y122 l2 _ _ _ (fun k_ => some k_ ≠ (.slice (some ⟨go37, 0, none⟩) y110.length co37 : Value).ownBlock ∧ some k_ ≠ (.slice (some ⟨go41, 0, none⟩) y118.length co41 : Value).ownBlock ∧ k_ ≠ gb106) (fun _ => False) rfl rfl ?aO ?aR (fun _ _ h => h) (fun _ h => h.elim) ?aF ?aB ?aS ?aL ?_
                                              (case aR => repeat (first | exact (Kd.C_below HR2.out HB.out) | (with_reducible refine Kd.C_alloc ?_ _) | (with_reducible refine Kd.C_drewN ?_ _) | (with_reducible refine Kd.C_drew ?_)))
                                              (case aB => exact (by repeat (first | (with_reducible first | exact HB.out | apply below_alloc | apply pw_below_drewN | apply below_drew1 | refine below_set ?_ GE106.out) | exact HB.out)))
                                              (case aF => exact (fun k_ hk => ⟨Kd.fresh' (Kd.R_lt (by (with_reducible repeat (first | apply Kd.R_alloc | apply Kd.R_drewN | apply Kd.R_drew)); exact HO112.out)) k_ hk, Kd.fresh' (Kd.R_lt (by (with_reducible repeat (first | apply Kd.R_alloc | apply Kd.R_drewN | apply Kd.R_drew)); exact HO120.out)) k_ hk, Kd.freshB (g := gb106) (o := .cells #[.int .i64 ((rd_T37 l2 (ji20)).f0), .int .i64 ((rd_T37 l2 (ji20)).f1), .int .i64 ((rd_T37 l2 (ji20)).f2), .string ((rd_T37 l2 (ji20)).f3), .bool ((rd_T37 l2 (ji20)).f4), .bool ((rd_T37 l2 (ji20)).f5)] 37 (0, 0)) (by (with_reducible repeat (first | refine blk_drewN ?_ _ | refine blk_drew ?_ | refine blk_alloc ?_ _)); exact BK106.out) k_ hk⟩))
                                              (case aO => exact (by (with_reducible repeat (first | apply Kd.R_alloc | apply Kd.R_drewN | apply Kd.R_drew)); exact Kd.R_mono HO124.out (fun _ hk => ⟨hk.1.1.2, ⟨hk.1.2, hk.2⟩⟩)))
                                              (case aS => exact (below_size (by repeat (first | (with_reducible first | exact HB.out | apply below_alloc | apply pw_below_drewN | apply below_drew1 | refine below_set ?_ GE106.out) | exact HB.out))))
                                              (case aL => have := LMc42.out; omega)
                                              intro v126 w67 ho hb hg hat
                                              rw [← Ny125.out] at ho
                                              have n0_ := Aside0.mk (blk_grown (g := gb106) (o := .cells #[.int .i64 ((rd_T37 l2 (ji20)).f0), .int .i64 ((rd_T37 l2 (ji20)).f1), .int .i64 ((rd_T37 l2 (ji20)).f2), .string ((rd_T37 l2 (ji20)).f3), .bool ((rd_T37 l2 (ji20)).f4), .bool ((rd_T37 l2 (ji20)).f5)] 37 (0, 0)) (by (with_reducible repeat (first | refine blk_drewN ?_ _ | refine blk_drew ?_ | refine blk_alloc ?_ _)); exact BK106.out) hg (Kd.R_away HO124.out (fun _ hk => hk.2)))
                                              have n1_ := Aside0.mk (Kd.R_after (ok := (fun k_ => some k_ ≠ (.slice (some ⟨go41, 0, none⟩) y118.length co41 : Value).ownBlock ∧ k_ ≠ gb106)) (by (with_reducible repeat (first | apply Kd.R_alloc | apply Kd.R_drewN | apply Kd.R_drew)); exact Kd.R_mono HO112.out (fun _ hk => ⟨⟨hk.1.2, hk.1.1⟩, hk.2⟩)) hg hat)
                                              have n2_ := Aside0.mk (Kd.R_after (ok := (fun k_ => some k_ ≠ (.slice (some ⟨go37, 0, none⟩) y110.length co37 : Value).ownBlock ∧ k_ ≠ gb106)) (by (with_reducible repeat (first | apply Kd.R_alloc | apply Kd.R_drewN | apply Kd.R_drew)); exact HO120.out) hg hat)
                                              have n3_ := Aside0.mk (hb)
                                              have n4_ := Aside0.mk (ho)
                                              clear BK106
                                              clear HO112
                                              clear HO120
                                              clear HB
                                              clear HO124
                                              have BK106 := n0_
                                              have HO112 := n1_
                                              have HO120 := n2_
                                              have HB := n3_
                                              have HO127 := n4_
                                              clear n0_ n1_ n2_ n3_ n4_
                                              clear ho hb hg hat
                                              refine hK.out _ _ ⟨(blk_cell BK106.out 0).trans rfl, (blk_cell BK106.out 1).trans rfl, (blk_cell BK106.out 2).trans rfl, (blk_cell BK106.out 3).trans rfl, (blk_cell BK106.out 4).trans rfl, (blk_cell BK106.out 5).trans rfl⟩ (fun hHeld => ?_)
                                              clear hK K
                                              refine norm_ (a' := ?_) ?_ ?_
                                              rotate_left
                                              · show Act.put _ (some 110) _ = _
                                                simp only [Act.put, List.setIfInBounds_toArray, List.set_cons_zero, List.set_cons_succ, i64_w, i32_w]
                                                rfl
                                              refine one_ (i := 12) (N := some 120) #[true, true, true, true, true, true, true, true, true, true, true, true, true, false, false] rfl rfl (one_of HT_.out (by kernel_rfl)) (by decide) (fun K hK => ?_)
                                              refine Kd.R_lit_step k37 _ 37 ?hg (N := 120) ?hd (xs := ([(⟨((rd_T37 l2 (ji20)).f0), ((rd_T37 l2 (ji20)).f1), wrap64 (Int.tmod a6 5), a0, false, false⟩ : S37)] : List (S37))) (inner := [.int .i64 ((rd_T37 l2 (ji20)).f0), .int .i64 ((rd_T37 l2 (ji20)).f1), .int .i64 (wrap64 (Int.tmod a6 5)), .string a0, .bool false, .bool false]) (ok := fun _ => True) (okp := fun _ => True) ?hr ?hp (fun _ hk => hk) trivial (Below.refl _ _) (Nat.le_refl _) (by simp) ?_; (case hd => rfl); (case hg => rfl); (case hr => first | (go_simp; done) | (go_simp; rfl)); (case hp => exact (Reps.c6 (show Kd.M k37 _ _ _ (⟨((rd_T37 l2 (ji20)).f0), ((rd_T37 l2 (ji20)).f1), wrap64 (Int.tmod a6 5), a0, false, false⟩ : S37) [.int .i64 ((rd_T37 l2 (ji20)).f0), .int .i64 ((rd_T37 l2 (ji20)).f1), .int .i64 (wrap64 (Int.tmod a6 5)), .string a0, .bool false, .bool false] from (k37_mkM _ _ _ (⟨((rd_T37 l2 (ji20)).f0), ((rd_T37 l2 (ji20)).f1), wrap64 (Int.tmod a6 5), a0, false, false⟩ : S37) )) (Reps.none _ _)))
                                              intro v129 w68 ho69 hb hg_ hnew_
                                              clear hg_ hnew_
                                              (first | rw [← Ny128.out] at ho69 | (simp only [Int.reduceToNat] at ho69; rw [← Ny128.out] at ho69))
                                              have n0_ := Aside0.mk (Kd.R_elder' (by (with_reducible repeat (first | apply Kd.R_alloc | apply Kd.R_drewN | apply Kd.R_drew)); exact HO112.out) (Kd.R_base ho69) hb)
                                              have n1_ := Aside0.mk (Kd.R_elder' (by (with_reducible repeat (first | apply Kd.R_alloc | apply Kd.R_drewN | apply Kd.R_drew)); exact HO120.out) (Kd.R_base ho69) hb)
                                              have n2_ := Aside0.mk (Kd.R_elder' (by (with_reducible repeat (first | apply Kd.R_alloc | apply Kd.R_drewN | apply Kd.R_drew)); exact HO127.out) (Kd.R_base ho69) hb)
                                              have n3_ := Aside0.mk (Kd.R_lower (Kd.R_newB (Kd.R_new' (Kd.R_new' (Kd.R_new' ho69 (Kd.R_lt (by (with_reducible repeat (first | apply Kd.R_alloc | apply Kd.R_drewN | apply Kd.R_drew)); exact HO112.out))) (Kd.R_lt (by (with_reducible repeat (first | apply Kd.R_alloc | apply Kd.R_drewN | apply Kd.R_drew)); exact HO120.out))) (Kd.R_lt (by (with_reducible repeat (first | apply Kd.R_alloc | apply Kd.R_drewN | apply Kd.R_drew)); exact HO127.out))) (g := gb106) (o := .cells #[.int .i64 ((rd_T37 l2 (ji20)).f0), .int .i64 ((rd_T37 l2 (ji20)).f1), .int .i64 ((rd_T37 l2 (ji20)).f2), .string ((rd_T37 l2 (ji20)).f3), .bool ((rd_T37 l2 (ji20)).f4), .bool ((rd_T37 l2 (ji20)).f5)] 37 (0, 0)) (by (with_reducible repeat (first | refine blk_drewN ?_ _ | refine blk_drew ?_ | refine blk_alloc ?_ _)); exact BK106.out)) (below_size (by repeat (first | (with_reducible first | exact HB.out | apply below_alloc | apply pw_below_drewN | apply below_drew1 | refine below_set ?_ GE106.out) | exact HB.out))))
                                              have n4_ := Aside0.mk (blk_below (g := gb106) (o := .cells #[.int .i64 ((rd_T37 l2 (ji20)).f0), .int .i64 ((rd_T37 l2 (ji20)).f1), .int .i64 ((rd_T37 l2 (ji20)).f2), .string ((rd_T37 l2 (ji20)).f3), .bool ((rd_T37 l2 (ji20)).f4), .bool ((rd_T37 l2 (ji20)).f5)] 37 (0, 0)) (by (with_reducible repeat (first | refine blk_drewN ?_ _ | refine blk_drew ?_ | refine blk_alloc ?_ _)); exact BK106.out) hb)
                                              have n5_ := Aside0.mk (below_step (by repeat (first | (with_reducible first | exact HB.out | apply below_alloc | apply pw_below_drewN | apply below_drew1 | refine below_set ?_ GE106.out) | exact HB.out)) hb)
                                              clear HO112
                                              clear HO120
                                              clear HO127
                                              clear BK106
                                              clear HB
                                              have HO112 := n0_
                                              have HO120 := n1_
                                              have HO127 := n2_
                                              have HO130 := n3_
                                              have BK106 := n4_
                                              have HB := n5_
                                              clear n0_ n1_ n2_ n3_ n4_ n5_
                                              clear hb ho69
                                              refine hK.out _ _ ⟨(blk_cell BK106.out 0).trans rfl, (blk_cell BK106.out 1).trans rfl, (blk_cell BK106.out 2).trans rfl, (blk_cell BK106.out 3).trans rfl, (blk_cell BK106.out 4).trans rfl, (blk_cell BK106.out 5).trans rfl⟩ (fun hHeld => ?_)
                                              clear hK K
                                              refine norm_ (a' := ?_) ?_ ?_
                                              rotate_left
                                              · show Act.put _ (some 120) _ = _
                                                simp only [Act.put, List.setIfInBounds_toArray, List.set_cons_zero, List.set_cons_succ, i64_w, i32_w]
                                                rfl
                                              exact norm_ (by simp only [putAll, Act.put, List.setIfInBounds_toArray, List.set_cons_zero, List.set_cons_succ]) (hCont (v123, v126, v129) _ ⟨hHeld, (by (with_reducible repeat (first | apply Kd.R_alloc | apply Kd.R_drewN | apply Kd.R_drew)); exact Kd.R_mono HO112.out (fun _ hk => ⟨hk.1.1.1, ⟨hk.1.2, ⟨hk.2, hk.1.1.2⟩⟩⟩)), (by (with_reducible repeat (first | apply Kd.R_alloc | apply Kd.R_drewN | apply Kd.R_drew)); exact Kd.R_mono HO120.out (fun _ hk => ⟨hk.1.1.1, ⟨hk.1.2, ⟨hk.2, hk.1.1.2⟩⟩⟩)), (by (with_reducible repeat (first | apply Kd.R_alloc | apply Kd.R_drewN | apply Kd.R_drew)); exact Kd.R_mono HO127.out (fun _ hk => ⟨hk.1.1, ⟨hk.1.2.1, ⟨hk.2, hk.1.2.2⟩⟩⟩)), (by (with_reducible repeat (first | apply Kd.R_alloc | apply Kd.R_drewN | apply Kd.R_drew)); exact Kd.R_mono HO130.out (fun _ hk => ⟨hk.1.1.1.2, ⟨hk.1.1.2, ⟨hk.1.2, hk.2⟩⟩⟩)), (by (with_reducible repeat (first | refine blk_drewN ?_ _ | refine blk_drew ?_ | refine blk_alloc ?_ _)); exact BK106.out), (by repeat (first | (with_reducible first | exact HB.out | apply below_alloc | apply pw_below_drewN | apply below_drew1 | refine below_set ?_ GE106.out) | exact HB.out))⟩)
                                            · skip
                                              refine Kd.R_lit_step k37 _ 37 ?hg (N := 120) ?hd (xs := ([(⟨((rd_T37 l2 (ji20)).f0), ((rd_T37 l2 (ji20)).f1), wrap64 (Int.tmod a6 5), a0, false, false⟩ : S37)] : List (S37))) (inner := [.int .i64 ((rd_T37 l2 (ji20)).f0), .int .i64 ((rd_T37 l2 (ji20)).f1), .int .i64 (wrap64 (Int.tmod a6 5)), .string a0, .bool false, .bool false]) (ok := fun _ => True) (okp := fun _ => True) ?hr ?hp (fun _ hk => hk) trivial (Below.refl _ _) (Nat.le_refl _) (by simp) ?_; (case hd => rfl); (case hg => rfl); (case hr => first | (go_simp; done) | (go_simp; rfl)); (case hp => exact (Reps.c6 (show Kd.M k37 _ _ _ (⟨((rd_T37 l2 (ji20)).f0), ((rd_T37 l2 (ji20)).f1), wrap64 (Int.tmod a6 5), a0, false, false⟩ : S37) [.int .i64 ((rd_T37 l2 (ji20)).f0), .int .i64 ((rd_T37 l2 (ji20)).f1), .int .i64 (wrap64 (Int.tmod a6 5)), .string a0, .bool false, .bool false] from (k37_mkM _ _ _ (⟨((rd_T37 l2 (ji20)).f0), ((rd_T37 l2 (ji20)).f1), wrap64 (Int.tmod a6 5), a0, false, false⟩ : S37) )) (Reps.none _ _)))
                                              intro v129 w67 ho68 hb hg_ hnew_
                                              clear hg_ hnew_
                                              (first | rw [← Ny128.out] at ho68 | (simp only [Int.reduceToNat] at ho68; rw [← Ny128.out] at ho68))
                                              have n0_ := Aside0.mk (Kd.R_elder' (by (with_reducible repeat (first | apply Kd.R_alloc | apply Kd.R_drewN | apply Kd.R_drew)); exact HO112.out) (Kd.R_base ho68) hb)
                                              have n1_ := Aside0.mk (Kd.R_elder' (by (with_reducible repeat (first | apply Kd.R_alloc | apply Kd.R_drewN | apply Kd.R_drew)); exact HO120.out) (Kd.R_base ho68) hb)
                                              have n2_ := Aside0.mk (Kd.R_elder' (by (with_reducible repeat (first | apply Kd.R_alloc | apply Kd.R_drewN | apply Kd.R_drew)); exact HO124.out) (Kd.R_base ho68) hb)
                                              have n3_ := Aside0.mk (Kd.R_lower (Kd.R_newB (Kd.R_new' (Kd.R_new' (Kd.R_new' ho68 (Kd.R_lt (by (with_reducible repeat (first | apply Kd.R_alloc | apply Kd.R_drewN | apply Kd.R_drew)); exact HO112.out))) (Kd.R_lt (by (with_reducible repeat (first | apply Kd.R_alloc | apply Kd.R_drewN | apply Kd.R_drew)); exact HO120.out))) (Kd.R_lt (by (with_reducible repeat (first | apply Kd.R_alloc | apply Kd.R_drewN | apply Kd.R_drew)); exact HO124.out))) (g := gb106) (o := .cells #[.int .i64 ((rd_T37 l2 (ji20)).f0), .int .i64 ((rd_T37 l2 (ji20)).f1), .int .i64 ((rd_T37 l2 (ji20)).f2), .string ((rd_T37 l2 (ji20)).f3), .bool ((rd_T37 l2 (ji20)).f4), .bool ((rd_T37 l2 (ji20)).f5)] 37 (0, 0)) (by (with_reducible repeat (first | refine blk_drewN ?_ _ | refine blk_drew ?_ | refine blk_alloc ?_ _)); exact BK106.out)) (below_size (by repeat (first | (with_reducible first | exact HB.out | apply below_alloc | apply pw_below_drewN | apply below_drew1 | refine below_set ?_ GE106.out) | exact HB.out))))
                                              have n4_ := Aside0.mk (blk_below (g := gb106) (o := .cells #[.int .i64 ((rd_T37 l2 (ji20)).f0), .int .i64 ((rd_T37 l2 (ji20)).f1), .int .i64 ((rd_T37 l2 (ji20)).f2), .string ((rd_T37 l2 (ji20)).f3), .bool ((rd_T37 l2 (ji20)).f4), .bool ((rd_T37 l2 (ji20)).f5)] 37 (0, 0)) (by (with_reducible repeat (first | refine blk_drewN ?_ _ | refine blk_drew ?_ | refine blk_alloc ?_ _)); exact BK106.out) hb)
                                              have n5_ := Aside0.mk (below_step (by repeat (first | (with_reducible first | exact HB.out | apply below_alloc | apply pw_below_drewN | apply below_drew1 | refine below_set ?_ GE106.out) | exact HB.out)) hb)
                                              clear HO112
                                              clear HO120
                                              clear HO124
                                              clear BK106
                                              clear HB
                                              have HO112 := n0_
                                              have HO120 := n1_
                                              have HO124 := n2_
                                              have HO130 := n3_
                                              have BK106 := n4_
                                              have HB := n5_
                                              clear n0_ n1_ n2_ n3_ n4_ n5_
                                              clear hb ho68
                                              refine hK.out _ _ ⟨(blk_cell BK106.out 0).trans rfl, (blk_cell BK106.out 1).trans rfl, (blk_cell BK106.out 2).trans rfl, (blk_cell BK106.out 3).trans rfl, (blk_cell BK106.out 4).trans rfl, (blk_cell BK106.out 5).trans rfl⟩ (fun hHeld => ?_)
                                              clear hK K
                                              refine norm_ (a' := ?_) ?_ ?_
                                              rotate_left
                                              · show Act.put _ (some 120) _ = _
                                                simp only [Act.put, List.setIfInBounds_toArray, List.set_cons_zero, List.set_cons_succ, i64_w, i32_w]
                                                rfl
                                              refine one_ (i := 2) (N := some 110) #[true, true, true, true, true, true, true, true, true, true, true, true, true, false, false] rfl rfl (one_of HT_.out (by kernel_rfl)) (by decide) (fun K hK => ?_)
                                              refine Kd.R_append_rows_step k37 (w0 := w) w.heap.size (by rfl) (.tmp 108) (.tmp 109) 22 37 (.agg #[(.int .i64 0), (.int .i64 0), (.int .i64 0), (.string ⟨#[]⟩), (.bool false), (.bool false)]) 48 rfl Try.underlying22 info37 rfl (by decide) (by omega) v123 y122 l2 _ _ _ (fun k_ => some k_ ≠ (.slice (some ⟨go37, 0, none⟩) y110.length co37 : Value).ownBlock ∧ some k_ ≠ (.slice (some ⟨go41, 0, none⟩) y118.length co41 : Value).ownBlock ∧ some k_ ≠ (v129 : Value).ownBlock ∧ k_ ≠ gb106) (fun _ => False) rfl rfl ?aO ?aR (fun _ _ h => h) (fun _ h => h.elim) ?aF ?aB ?aS ?aL ?_
                                              (case aR => repeat (first | exact (Kd.C_below HR2.out HB.out) | (with_reducible refine Kd.C_alloc ?_ _) | (with_reducible refine Kd.C_drewN ?_ _) | (with_reducible refine Kd.C_drew ?_)))
                                              (case aB => exact (by repeat (first | (with_reducible first | exact HB.out | apply below_alloc | apply pw_below_drewN | apply below_drew1 | refine below_set ?_ GE106.out) | exact HB.out)))
                                              (case aF => exact (fun k_ hk => ⟨Kd.fresh' (Kd.R_lt (by (with_reducible repeat (first | apply Kd.R_alloc | apply Kd.R_drewN | apply Kd.R_drew)); exact HO112.out)) k_ hk, Kd.fresh' (Kd.R_lt (by (with_reducible repeat (first | apply Kd.R_alloc | apply Kd.R_drewN | apply Kd.R_drew)); exact HO120.out)) k_ hk, Kd.fresh' (Kd.R_lt (by (with_reducible repeat (first | apply Kd.R_alloc | apply Kd.R_drewN | apply Kd.R_drew)); exact HO130.out)) k_ hk, Kd.freshB (g := gb106) (o := .cells #[.int .i64 ((rd_T37 l2 (ji20)).f0), .int .i64 ((rd_T37 l2 (ji20)).f1), .int .i64 ((rd_T37 l2 (ji20)).f2), .string ((rd_T37 l2 (ji20)).f3), .bool ((rd_T37 l2 (ji20)).f4), .bool ((rd_T37 l2 (ji20)).f5)] 37 (0, 0)) (by (with_reducible repeat (first | refine blk_drewN ?_ _ | refine blk_drew ?_ | refine blk_alloc ?_ _)); exact BK106.out) k_ hk⟩))
                                              (case aO => exact (by (with_reducible repeat (first | apply Kd.R_alloc | apply Kd.R_drewN | apply Kd.R_drew)); exact Kd.R_mono HO124.out (fun _ hk => ⟨hk.1.1.1.2, ⟨hk.1.1.2, ⟨hk.2, hk.1.2⟩⟩⟩)))
                                              (case aS => exact (below_size (by repeat (first | (with_reducible first | exact HB.out | apply below_alloc | apply pw_below_drewN | apply below_drew1 | refine below_set ?_ GE106.out) | exact HB.out))))
                                              (case aL => have := LMc42.out; omega)
                                              intro v126 w69 ho hb hg hat
                                              rw [← Ny125.out] at ho
                                              have n0_ := Aside0.mk (blk_grown (g := gb106) (o := .cells #[.int .i64 ((rd_T37 l2 (ji20)).f0), .int .i64 ((rd_T37 l2 (ji20)).f1), .int .i64 ((rd_T37 l2 (ji20)).f2), .string ((rd_T37 l2 (ji20)).f3), .bool ((rd_T37 l2 (ji20)).f4), .bool ((rd_T37 l2 (ji20)).f5)] 37 (0, 0)) (by (with_reducible repeat (first | refine blk_drewN ?_ _ | refine blk_drew ?_ | refine blk_alloc ?_ _)); exact BK106.out) hg (Kd.R_away HO124.out (fun _ hk => hk.1.2)))
                                              have n1_ := Aside0.mk (Kd.R_after (ok := (fun k_ => some k_ ≠ (.slice (some ⟨go41, 0, none⟩) y118.length co41 : Value).ownBlock ∧ some k_ ≠ (v129 : Value).ownBlock ∧ k_ ≠ gb106)) (by (with_reducible repeat (first | apply Kd.R_alloc | apply Kd.R_drewN | apply Kd.R_drew)); exact Kd.R_mono HO112.out (fun _ hk => ⟨⟨hk.1.1.2, ⟨hk.2, hk.1.1.1⟩⟩, hk.1.2⟩)) hg hat)
                                              have n2_ := Aside0.mk (Kd.R_after (ok := (fun k_ => some k_ ≠ (.slice (some ⟨go37, 0, none⟩) y110.length co37 : Value).ownBlock ∧ some k_ ≠ (v129 : Value).ownBlock ∧ k_ ≠ gb106)) (by (with_reducible repeat (first | apply Kd.R_alloc | apply Kd.R_drewN | apply Kd.R_drew)); exact Kd.R_mono HO120.out (fun _ hk => ⟨⟨hk.1.1.1, ⟨hk.2, hk.1.1.2⟩⟩, hk.1.2⟩)) hg hat)
                                              have n3_ := Aside0.mk (Kd.R_after (ok := (fun k_ => some k_ ≠ (.slice (some ⟨go37, 0, none⟩) y110.length co37 : Value).ownBlock ∧ some k_ ≠ (.slice (some ⟨go41, 0, none⟩) y118.length co41 : Value).ownBlock ∧ k_ ≠ gb106)) (by (with_reducible repeat (first | apply Kd.R_alloc | apply Kd.R_drewN | apply Kd.R_drew)); exact Kd.R_mono HO130.out (fun _ hk => ⟨⟨hk.1.1.1.2, ⟨hk.1.1.2, hk.2⟩⟩, hk.1.2⟩)) hg hat)
                                              have n4_ := Aside0.mk (hb)
                                              have n5_ := Aside0.mk (ho)
                                              clear BK106
                                              clear HO112
                                              clear HO120
                                              clear HO130
                                              clear HB
                                              clear HO124
                                              have BK106 := n0_
                                              have HO112 := n1_
                                              have HO120 := n2_
                                              have HO130 := n3_
                                              have HB := n4_
                                              have HO127 := n5_
                                              clear n0_ n1_ n2_ n3_ n4_ n5_
                                              clear ho hb hg hat
                                              refine hK.out _ _ ⟨(blk_cell BK106.out 0).trans rfl, (blk_cell BK106.out 1).trans rfl, (blk_cell BK106.out 2).trans rfl, (blk_cell BK106.out 3).trans rfl, (blk_cell BK106.out 4).trans rfl, (blk_cell BK106.out 5).trans rfl⟩ (fun hHeld => ?_)
                                              clear hK K
                                              refine norm_ (a' := ?_) ?_ ?_
                                              rotate_left
                                              · show Act.put _ (some 110) _ = _
                                                simp only [Act.put, List.setIfInBounds_toArray, List.set_cons_zero, List.set_cons_succ, i64_w, i32_w]
                                                rfl
                                              exact norm_ (by simp only [putAll, Act.put, List.setIfInBounds_toArray, List.set_cons_zero, List.set_cons_succ]) (hCont (v123, v126, v129) _ ⟨hHeld, (by (with_reducible repeat (first | apply Kd.R_alloc | apply Kd.R_drewN | apply Kd.R_drew)); exact Kd.R_mono HO112.out (fun _ hk => ⟨hk.1.1, ⟨hk.2, ⟨hk.1.2.1, hk.1.2.2⟩⟩⟩)), (by (with_reducible repeat (first | apply Kd.R_alloc | apply Kd.R_drewN | apply Kd.R_drew)); exact Kd.R_mono HO120.out (fun _ hk => ⟨hk.1.1, ⟨hk.2, ⟨hk.1.2.1, hk.1.2.2⟩⟩⟩)), (by (with_reducible repeat (first | apply Kd.R_alloc | apply Kd.R_drewN | apply Kd.R_drew)); exact HO127.out), (by (with_reducible repeat (first | apply Kd.R_alloc | apply Kd.R_drewN | apply Kd.R_drew)); exact Kd.R_mono HO130.out (fun _ hk => ⟨hk.1.1, ⟨hk.1.2.1, ⟨hk.2, hk.1.2.2⟩⟩⟩)), (by (with_reducible repeat (first | refine blk_drewN ?_ _ | refine blk_drew ?_ | refine blk_alloc ?_ _)); exact BK106.out), (by repeat (first | (with_reducible first | exact HB.out | apply below_alloc | apply pw_below_drewN | apply below_drew1 | refine below_set ?_ GE106.out) | exact HB.out))⟩)
                                          · skip
                                            refine Kd.R_lit_step k37 _ 37 ?hg (N := 120) ?hd (xs := ([(⟨((rd_T37 l2 (ji20)).f0), ((rd_T37 l2 (ji20)).f1), wrap64 (Int.tmod a6 5), a0, false, false⟩ : S37)] : List (S37))) (inner := [.int .i64 ((rd_T37 l2 (ji20)).f0), .int .i64 ((rd_T37 l2 (ji20)).f1), .int .i64 (wrap64 (Int.tmod a6 5)), .string a0, .bool false, .bool false]) (ok := fun _ => True) (okp := fun _ => True) ?hr ?hp (fun _ hk => hk) trivial (Below.refl _ _) (Nat.le_refl _) (by simp) ?_; (case hd => rfl); (case hg => rfl); (case hr => first | (go_simp; done) | (go_simp; rfl)); (case hp => exact (Reps.c6 (show Kd.M k37 _ _ _ (⟨((rd_T37 l2 (ji20)).f0), ((rd_T37 l2 (ji20)).f1), wrap64 (Int.tmod a6 5), a0, false, false⟩ : S37) [.int .i64 ((rd_T37 l2 (ji20)).f0), .int .i64 ((rd_T37 l2 (ji20)).f1), .int .i64 (wrap64 (Int.tmod a6 5)), .string a0, .bool false, .bool false] from (k37_mkM _ _ _ (⟨((rd_T37 l2 (ji20)).f0), ((rd_T37 l2 (ji20)).f1), wrap64 (Int.tmod a6 5), a0, false, false⟩ : S37) )) (Reps.none _ _)))
                                            intro v129 w65 ho66 hb hg_ hnew_
                                            clear hg_ hnew_
                                            (first | rw [← Ny128.out] at ho66 | (simp only [Int.reduceToNat] at ho66; rw [← Ny128.out] at ho66))
                                            have n0_ := Aside0.mk (Kd.R_elder' (by (with_reducible repeat (first | apply Kd.R_alloc | apply Kd.R_drewN | apply Kd.R_drew)); exact HO112.out) (Kd.R_base ho66) hb)
                                            have n1_ := Aside0.mk (Kd.R_elder' (by (with_reducible repeat (first | apply Kd.R_alloc | apply Kd.R_drewN | apply Kd.R_drew)); exact HO120.out) (Kd.R_base ho66) hb)
                                            have n2_ := Aside0.mk (Kd.R_lower (Kd.R_newB (Kd.R_new' (Kd.R_new' ho66 (Kd.R_lt (by (with_reducible repeat (first | apply Kd.R_alloc | apply Kd.R_drewN | apply Kd.R_drew)); exact HO112.out))) (Kd.R_lt (by (with_reducible repeat (first | apply Kd.R_alloc | apply Kd.R_drewN | apply Kd.R_drew)); exact HO120.out))) (g := gb106) (o := .cells #[.int .i64 ((rd_T37 l2 (ji20)).f0), .int .i64 ((rd_T37 l2 (ji20)).f1), .int .i64 ((rd_T37 l2 (ji20)).f2), .string ((rd_T37 l2 (ji20)).f3), .bool ((rd_T37 l2 (ji20)).f4), .bool ((rd_T37 l2 (ji20)).f5)] 37 (0, 0)) (by (with_reducible repeat (first | refine blk_drewN ?_ _ | refine blk_drew ?_ | refine blk_alloc ?_ _)); exact BK106.out)) (below_size (by repeat (first | (with_reducible first | exact HB.out | apply below_alloc | apply pw_below_drewN | apply below_drew1 | refine below_set ?_ GE106.out) | exact HB.out))))
                                            have n3_ := Aside0.mk (blk_below (g := gb106) (o := .cells #[.int .i64 ((rd_T37 l2 (ji20)).f0), .int .i64 ((rd_T37 l2 (ji20)).f1), .int .i64 ((rd_T37 l2 (ji20)).f2), .string ((rd_T37 l2 (ji20)).f3), .bool ((rd_T37 l2 (ji20)).f4), .bool ((rd_T37 l2 (ji20)).f5)] 37 (0, 0)) (by (with_reducible repeat (first | refine blk_drewN ?_ _ | refine blk_drew ?_ | refine blk_alloc ?_ _)); exact BK106.out) hb)
                                            have n4_ := Aside0.mk (below_step (by repeat (first | (with_reducible first | exact HB.out | apply below_alloc | apply pw_below_drewN | apply below_drew1 | refine below_set ?_ GE106.out) | exact HB.out)) hb)
                                            clear HO112
                                            clear HO120
                                            clear BK106
                                            clear HB
                                            have HO112 := n0_
                                            have HO120 := n1_
                                            have HO130 := n2_
                                            have BK106 := n3_
                                            have HB := n4_
                                            clear n0_ n1_ n2_ n3_ n4_
                                            clear hb ho66
                                            refine hK.out _ _ ⟨(blk_cell BK106.out 0).trans rfl, (blk_cell BK106.out 1).trans rfl, (blk_cell BK106.out 2).trans rfl, (blk_cell BK106.out 3).trans rfl, (blk_cell BK106.out 4).trans rfl, (blk_cell BK106.out 5).trans rfl⟩ (fun hHeld => ?_)
                                            clear hK K
                                            refine norm_ (a' := ?_) ?_ ?_
                                            rotate_left
                                            · show Act.put _ (some 120) _ = _
                                              simp only [Act.put, List.setIfInBounds_toArray, List.set_cons_zero, List.set_cons_succ, i64_w, i32_w]
                                              rfl
                                            refine one_ (i := 0) (N := some 108) #[true, true, false, true, true, true, true, true, true, true, true, true, true, false, false] rfl rfl (one_of HT_.out (by kernel_rfl)) (by decide) (fun K hK => ?_)
                                            refine Kd.R_lit_step k37 _ 37 ?hg (N := 108) ?hd (xs := ([] : List (S37))) (inner := []) (ok := fun _ => True) (okp := fun _ => True) ?hr ?hp (fun _ hk => hk) trivial (Below.refl _ _) (Nat.le_refl _) (by simp) ?_; (case hd => rfl); (case hg => rfl); (case hr => first | (go_simp; done) | (go_simp; rfl)); (case hp => exact (Reps.none _ _))
                                            intro v123 w67 ho68 hb hg_ hnew_
                                            clear hg_ hnew_
                                            (first | rw [← Ny122.out] at ho68 | (simp only [Int.reduceToNat] at ho68; rw [← Ny122.out] at ho68))
                                            have n0_ := Aside0.mk (Kd.R_elder' (by (with_reducible repeat (first | apply Kd.R_alloc | apply Kd.R_drewN | apply Kd.R_drew)); exact HO112.out) (Kd.R_base ho68) hb)
                                            have n1_ := Aside0.mk (Kd.R_elder' (by (with_reducible repeat (first | apply Kd.R_alloc | apply Kd.R_drewN | apply Kd.R_drew)); exact HO120.out) (Kd.R_base ho68) hb)
                                            have n2_ := Aside0.mk (Kd.R_elder' (by (with_reducible repeat (first | apply Kd.R_alloc | apply Kd.R_drewN | apply Kd.R_drew)); exact HO130.out) (Kd.R_base ho68) hb)
                                            have n3_ := Aside0.mk (Kd.R_lower (Kd.R_newB (Kd.R_new' (Kd.R_new' (Kd.R_new' ho68 (Kd.R_lt (by (with_reducible repeat (first | apply Kd.R_alloc | apply Kd.R_drewN | apply Kd.R_drew)); exact HO112.out))) (Kd.R_lt (by (with_reducible repeat (first | apply Kd.R_alloc | apply Kd.R_drewN | apply Kd.R_drew)); exact HO120.out))) (Kd.R_lt (by (with_reducible repeat (first | apply Kd.R_alloc | apply Kd.R_drewN | apply Kd.R_drew)); exact HO130.out))) (g := gb106) (o := .cells #[.int .i64 ((rd_T37 l2 (ji20)).f0), .int .i64 ((rd_T37 l2 (ji20)).f1), .int .i64 ((rd_T37 l2 (ji20)).f2), .string ((rd_T37 l2 (ji20)).f3), .bool ((rd_T37 l2 (ji20)).f4), .bool ((rd_T37 l2 (ji20)).f5)] 37 (0, 0)) (by (with_reducible repeat (first | refine blk_drewN ?_ _ | refine blk_drew ?_ | refine blk_alloc ?_ _)); exact BK106.out)) (below_size (by repeat (first | (with_reducible first | exact HB.out | apply below_alloc | apply pw_below_drewN | apply below_drew1 | refine below_set ?_ GE106.out) | exact HB.out))))
                                            have n4_ := Aside0.mk (blk_below (g := gb106) (o := .cells #[.int .i64 ((rd_T37 l2 (ji20)).f0), .int .i64 ((rd_T37 l2 (ji20)).f1), .int .i64 ((rd_T37 l2 (ji20)).f2), .string ((rd_T37 l2 (ji20)).f3), .bool ((rd_T37 l2 (ji20)).f4), .bool ((rd_T37 l2 (ji20)).f5)] 37 (0, 0)) (by (with_reducible repeat (first | refine blk_drewN ?_ _ | refine blk_drew ?_ | refine blk_alloc ?_ _)); exact BK106.out) hb)
                                            have n5_ := Aside0.mk (below_step (by repeat (first | (with_reducible first | exact HB.out | apply below_alloc | apply pw_below_drewN | apply below_drew1 | refine below_set ?_ GE106.out) | exact HB.out)) hb)
                                            clear HO112
                                            clear HO120
                                            clear HO130
                                            clear BK106
                                            clear HB
                                            have HO112 := n0_
                                            have HO120 := n1_
                                            have HO130 := n2_
                                            have HO124 := n3_
                                            have BK106 := n4_
                                            have HB := n5_
                                            clear n0_ n1_ n2_ n3_ n4_ n5_
                                            clear hb ho68
                                            refine hK.out _ _ ⟨(blk_cell BK106.out 0).trans rfl, (blk_cell BK106.out 1).trans rfl, (blk_cell BK106.out 2).trans rfl, (blk_cell BK106.out 3).trans rfl, (blk_cell BK106.out 4).trans rfl, (blk_cell BK106.out 5).trans rfl⟩ (fun hHeld => ?_)
                                            clear hK K
                                            refine norm_ (a' := ?_) ?_ ?_
                                            rotate_left
                                            · show Act.put _ (some 108) _ = _
                                              simp only [Act.put, List.setIfInBounds_toArray, List.set_cons_zero, List.set_cons_succ, i64_w, i32_w]
                                              rfl
                                            refine one_ (i := 2) (N := some 110) #[true, true, true, true, true, true, true, true, true, true, true, true, true, false, false] rfl rfl (one_of HT_.out (by kernel_rfl)) (by decide) (fun K hK => ?_)
                                            refine Kd.R_append_rows_step k37 (w0 := w) w.heap.size (by rfl) (.tmp 108) (.tmp 109) 22 37 (.agg #[(.int .i64 0), (.int .i64 0), (.int .i64 0), (.string ⟨#[]⟩), (.bool false), (.bool false)]) 48 rfl Try.underlying22 info37 rfl (by decide) (by omega) v123 y122 l2 _ _ _ (fun k_ => some k_ ≠ (.slice (some ⟨go37, 0, none⟩) y110.length co37 : Value).ownBlock ∧ some k_ ≠ (.slice (some ⟨go41, 0, none⟩) y118.length co41 : Value).ownBlock ∧ some k_ ≠ (v129 : Value).ownBlock ∧ k_ ≠ gb106) (fun _ => False) rfl rfl ?aO ?aR (fun _ _ h => h) (fun _ h => h.elim) ?aF ?aB ?aS ?aL ?_
                                            (case aR => repeat (first | exact (Kd.C_below HR2.out HB.out) | (with_reducible refine Kd.C_alloc ?_ _) | (with_reducible refine Kd.C_drewN ?_ _) | (with_reducible refine Kd.C_drew ?_)))
                                            (case aB => exact (by repeat (first | (with_reducible first | exact HB.out | apply below_alloc | apply pw_below_drewN | apply below_drew1 | refine below_set ?_ GE106.out) | exact HB.out)))
                                            (case aF => exact (fun k_ hk => ⟨Kd.fresh' (Kd.R_lt (by (with_reducible repeat (first | apply Kd.R_alloc | apply Kd.R_drewN | apply Kd.R_drew)); exact HO112.out)) k_ hk, Kd.fresh' (Kd.R_lt (by (with_reducible repeat (first | apply Kd.R_alloc | apply Kd.R_drewN | apply Kd.R_drew)); exact HO120.out)) k_ hk, Kd.fresh' (Kd.R_lt (by (with_reducible repeat (first | apply Kd.R_alloc | apply Kd.R_drewN | apply Kd.R_drew)); exact HO130.out)) k_ hk, Kd.freshB (g := gb106) (o := .cells #[.int .i64 ((rd_T37 l2 (ji20)).f0), .int .i64 ((rd_T37 l2 (ji20)).f1), .int .i64 ((rd_T37 l2 (ji20)).f2), .string ((rd_T37 l2 (ji20)).f3), .bool ((rd_T37 l2 (ji20)).f4), .bool ((rd_T37 l2 (ji20)).f5)] 37 (0, 0)) (by (with_reducible repeat (first | refine blk_drewN ?_ _ | refine blk_drew ?_ | refine blk_alloc ?_ _)); exact BK106.out) k_ hk⟩))
                                            (case aO => exact (by (with_reducible repeat (first | apply Kd.R_alloc | apply Kd.R_drewN | apply Kd.R_drew)); exact Kd.R_mono HO124.out (fun _ hk => ⟨hk.1.1.1.2, ⟨hk.1.1.2, ⟨hk.1.2, hk.2⟩⟩⟩)))
                                            (case aS => exact (below_size (by repeat (first | (with_reducible first | exact HB.out | apply below_alloc | apply pw_below_drewN | apply below_drew1 | refine below_set ?_ GE106.out) | exact HB.out))))
                                            (case aL => have := LMc42.out; omega)
                                            intro v126 w69 ho hb hg hat
                                            rw [← Ny125.out] at ho
                                            have n0_ := Aside0.mk (blk_grown (g := gb106) (o := .cells #[.int .i64 ((rd_T37 l2 (ji20)).f0), .int .i64 ((rd_T37 l2 (ji20)).f1), .int .i64 ((rd_T37 l2 (ji20)).f2), .string ((rd_T37 l2 (ji20)).f3), .bool ((rd_T37 l2 (ji20)).f4), .bool ((rd_T37 l2 (ji20)).f5)] 37 (0, 0)) (by (with_reducible repeat (first | refine blk_drewN ?_ _ | refine blk_drew ?_ | refine blk_alloc ?_ _)); exact BK106.out) hg (Kd.R_away HO124.out (fun _ hk => hk.2)))
                                            have n1_ := Aside0.mk (Kd.R_after (ok := (fun k_ => some k_ ≠ (.slice (some ⟨go41, 0, none⟩) y118.length co41 : Value).ownBlock ∧ some k_ ≠ (v129 : Value).ownBlock ∧ k_ ≠ gb106)) (by (with_reducible repeat (first | apply Kd.R_alloc | apply Kd.R_drewN | apply Kd.R_drew)); exact Kd.R_mono HO112.out (fun _ hk => ⟨⟨hk.1.1.2, ⟨hk.1.2, hk.1.1.1⟩⟩, hk.2⟩)) hg hat)
                                            have n2_ := Aside0.mk (Kd.R_after (ok := (fun k_ => some k_ ≠ (.slice (some ⟨go37, 0, none⟩) y110.length co37 : Value).ownBlock ∧ some k_ ≠ (v129 : Value).ownBlock ∧ k_ ≠ gb106)) (by (with_reducible repeat (first | apply Kd.R_alloc | apply Kd.R_drewN | apply Kd.R_drew)); exact Kd.R_mono HO120.out (fun _ hk => ⟨⟨hk.1.1.1, ⟨hk.1.2, hk.1.1.2⟩⟩, hk.2⟩)) hg hat)
                                            have n3_ := Aside0.mk (Kd.R_after (ok := (fun k_ => some k_ ≠ (.slice (some ⟨go37, 0, none⟩) y110.length co37 : Value).ownBlock ∧ some k_ ≠ (.slice (some ⟨go41, 0, none⟩) y118.length co41 : Value).ownBlock ∧ k_ ≠ gb106)) (by (with_reducible repeat (first | apply Kd.R_alloc | apply Kd.R_drewN | apply Kd.R_drew)); exact Kd.R_mono HO130.out (fun _ hk => ⟨⟨hk.1.1.1.2, ⟨hk.1.1.2, hk.1.2⟩⟩, hk.2⟩)) hg hat)
                                            have n4_ := Aside0.mk (hb)
                                            have n5_ := Aside0.mk (ho)
                                            clear BK106
                                            clear HO112
                                            clear HO120
                                            clear HO130
                                            clear HB
                                            clear HO124
                                            have BK106 := n0_
                                            have HO112 := n1_
                                            have HO120 := n2_
                                            have HO130 := n3_
                                            have HB := n4_
                                            have HO127 := n5_
                                            clear n0_ n1_ n2_ n3_ n4_ n5_
                                            clear ho hb hg hat
                                            refine hK.out _ _ ⟨(blk_cell BK106.out 0).trans rfl, (blk_cell BK106.out 1).trans rfl, (blk_cell BK106.out 2).trans rfl, (blk_cell BK106.out 3).trans rfl, (blk_cell BK106.out 4).trans rfl, (blk_cell BK106.out 5).trans rfl⟩ (fun hHeld => ?_)
                                            clear hK K
                                            refine norm_ (a' := ?_) ?_ ?_
                                            rotate_left
                                            · show Act.put _ (some 110) _ = _
                                              simp only [Act.put, List.setIfInBounds_toArray, List.set_cons_zero, List.set_cons_succ, i64_w, i32_w]
                                              rfl
                                            exact norm_ (by simp only [putAll, Act.put, List.setIfInBounds_toArray, List.set_cons_zero, List.set_cons_succ]) (hCont (v123, v126, v129) _ ⟨hHeld, (by (with_reducible repeat (first | apply Kd.R_alloc | apply Kd.R_drewN | apply Kd.R_drew)); exact Kd.R_mono HO112.out (fun _ hk => ⟨hk.1.1, ⟨hk.2, ⟨hk.1.2.1, hk.1.2.2⟩⟩⟩)), (by (with_reducible repeat (first | apply Kd.R_alloc | apply Kd.R_drewN | apply Kd.R_drew)); exact Kd.R_mono HO120.out (fun _ hk => ⟨hk.1.1, ⟨hk.2, ⟨hk.1.2.1, hk.1.2.2⟩⟩⟩)), (by (with_reducible repeat (first | apply Kd.R_alloc | apply Kd.R_drewN | apply Kd.R_drew)); exact HO127.out), (by (with_reducible repeat (first | apply Kd.R_alloc | apply Kd.R_drewN | apply Kd.R_drew)); exact Kd.R_mono HO130.out (fun _ hk => ⟨hk.1.1, ⟨hk.1.2.1, ⟨hk.2, hk.1.2.2⟩⟩⟩)), (by (with_reducible repeat (first | refine blk_drewN ?_ _ | refine blk_drew ?_ | refine blk_alloc ?_ _)); exact BK106.out), (by repeat (first | (with_reducible first | exact HB.out | apply below_alloc | apply pw_below_drewN | apply below_drew1 | refine below_set ?_ GE106.out) | exact HB.out))⟩)
                                        rintro ⟨v123, v126, v129⟩ w70 ⟨hS_, h0_, h1_, h2_, h3_, h4_, h5_⟩
                                        have n0_ : Aside0 (Kd.R k37 37 w70 w.heap.size (fun k_ => some k_ ≠ (.slice (some ⟨go41, 0, none⟩) y118.length co41 : Value).ownBlock ∧ some k_ ≠ (v126 : Value).ownBlock ∧ some k_ ≠ (v129 : Value).ownBlock ∧ k_ ≠ gb106) (.slice (some ⟨go37, 0, none⟩) y110.length co37) y114) := ⟨h0_⟩
                                        have n1_ : Aside0 (Kd.R k37 37 w70 w.heap.size (fun k_ => some k_ ≠ (.slice (some ⟨go37, 0, none⟩) y110.length co37 : Value).ownBlock ∧ some k_ ≠ (v126 : Value).ownBlock ∧ some k_ ≠ (v129 : Value).ownBlock ∧ k_ ≠ gb106) (.slice (some ⟨go41, 0, none⟩) y118.length co41) y121) := ⟨h1_⟩
                                        have n2_ : Aside0 (Kd.R k37 37 w70 w.heap.size (fun k_ => some k_ ≠ (.slice (some ⟨go37, 0, none⟩) y110.length co37 : Value).ownBlock ∧ some k_ ≠ (.slice (some ⟨go41, 0, none⟩) y118.length co41 : Value).ownBlock ∧ some k_ ≠ (v129 : Value).ownBlock ∧ k_ ≠ gb106) v126 y125) := ⟨h2_⟩
                                        have n3_ : Aside0 (Kd.R k37 37 w70 w.heap.size (fun k_ => some k_ ≠ (.slice (some ⟨go37, 0, none⟩) y110.length co37 : Value).ownBlock ∧ some k_ ≠ (.slice (some ⟨go41, 0, none⟩) y118.length co41 : Value).ownBlock ∧ some k_ ≠ (v126 : Value).ownBlock ∧ k_ ≠ gb106) v129 y128) := ⟨h3_⟩
                                        have n4_ : Aside0 (w70.heap[gb106]? = some (.cells #[.int .i64 ((rd_T37 l2 (ji20)).f0), .int .i64 ((rd_T37 l2 (ji20)).f1), .int .i64 ((rd_T37 l2 (ji20)).f2), .string ((rd_T37 l2 (ji20)).f3), .bool ((rd_T37 l2 (ji20)).f4), .bool ((rd_T37 l2 (ji20)).f5)] 37 (0, 0))) := ⟨h4_⟩
                                        have n5_ : Aside0 (Below w.heap.size w w70) := ⟨h5_⟩
                                        clear HO112
                                        clear HO120
                                        clear BK106
                                        clear HB
                                        clear h0_ h1_ h2_ h3_ h4_ h5_
                                        have HO112 := n0_
                                        have HO120 := n1_
                                        have HO127 := n2_
                                        have HO130 := n3_
                                        have BK106 := n4_
                                        have HB := n5_
                                        clear n0_ n1_ n2_ n3_ n4_ n5_
                                        have hHeld : w70.cell? ⟨gb106, 0, none⟩ = some (.int .i64 ((rd_T37 l2 (ji20)).f0)) ∧ w70.cell? ⟨gb106, 1, none⟩ = some (.int .i64 ((rd_T37 l2 (ji20)).f1)) ∧ w70.cell? ⟨gb106, 2, none⟩ = some (.int .i64 ((rd_T37 l2 (ji20)).f2)) ∧ w70.cell? ⟨gb106, 3, none⟩ = some (.string ((rd_T37 l2 (ji20)).f3)) ∧ w70.cell? ⟨gb106, 4, none⟩ = some (.bool ((rd_T37 l2 (ji20)).f4)) ∧ w70.cell? ⟨gb106, 5, none⟩ = some (.bool ((rd_T37 l2 (ji20)).f5)) := hS_
                                        obtain ⟨Ao72, co72, eo72⟩ := Kd.R_slice HO130.out
                                        (first | subst eo72 | (injection eo72 with f1_ f2_ f3_; have f4_ := f1_.symm; have f5_ := f3_.symm; clear f1_ f2_ f3_; subst f4_; subst f5_))
                                        refine norm_ (a' := ?_) ?_ ?_
                                        rotate_left
                                        · simp only [putAll, Act.put, List.setIfInBounds_toArray, List.set_cons_zero, List.set_cons_succ]
                                          rfl
                                        refine one_ (i := 13) (N := some 121) #[true, true, true, true, true, true, true, true, true, true, true, true, true, true, false] rfl rfl (one_of HT_.out (by kernel_rfl)) (by decide) (fun K hK => ?_)
                                        refine Kd.R_append_rows_step k37 (w0 := w) w.heap.size (by rfl) (.tmp 110) (.tmp 120) 22 37 (.agg #[(.int .i64 0), (.int .i64 0), (.int .i64 0), (.string ⟨#[]⟩), (.bool false), (.bool false)]) 48 rfl Try.underlying22 info37 rfl (by decide) (by omega) v126 y125 y128 _ _ _ (fun k_ => some k_ ≠ (.slice (some ⟨go37, 0, none⟩) y110.length co37 : Value).ownBlock ∧ some k_ ≠ (.slice (some ⟨go41, 0, none⟩) y118.length co41 : Value).ownBlock ∧ some k_ ≠ (.slice Ao72 y128.length co72 : Value).ownBlock ∧ k_ ≠ gb106) (fun _ => False) rfl rfl ?aO ?aR (fun _ _ h => h) (fun _ h => h.elim) ?aF ?aB ?aS ?aL ?_
                                        (case aR => repeat (first | exact (Kd.R_reads' HO130.out).2.2 | (with_reducible refine Kd.C_alloc ?_ _) | (with_reducible refine Kd.C_drewN ?_ _) | (with_reducible refine Kd.C_drew ?_)))
                                        (case aB => exact (by repeat (first | (with_reducible first | exact HB.out | apply below_alloc | apply pw_below_drewN | apply below_drew1 | refine below_set ?_ GE106.out) | exact HB.out)))
                                        (case aF => exact (fun k_ hk => ⟨Kd.fresh' (Kd.R_lt (by (with_reducible repeat (first | apply Kd.R_alloc | apply Kd.R_drewN | apply Kd.R_drew)); exact HO112.out)) k_ hk, Kd.fresh' (Kd.R_lt (by (with_reducible repeat (first | apply Kd.R_alloc | apply Kd.R_drewN | apply Kd.R_drew)); exact HO120.out)) k_ hk, Kd.fresh' (Kd.R_lt (by (with_reducible repeat (first | apply Kd.R_alloc | apply Kd.R_drewN | apply Kd.R_drew)); exact HO130.out)) k_ hk, Kd.freshB (g := gb106) (o := .cells #[.int .i64 ((rd_T37 l2 (ji20)).f0), .int .i64 ((rd_T37 l2 (ji20)).f1), .int .i64 ((rd_T37 l2 (ji20)).f2), .string ((rd_T37 l2 (ji20)).f3), .bool ((rd_T37 l2 (ji20)).f4), .bool ((rd_T37 l2 (ji20)).f5)] 37 (0, 0)) (by (with_reducible repeat (first | refine blk_drewN ?_ _ | refine blk_drew ?_ | refine blk_alloc ?_ _)); exact BK106.out) k_ hk⟩))
                                        (case aO => exact (by (with_reducible repeat (first | apply Kd.R_alloc | apply Kd.R_drewN | apply Kd.R_drew)); exact HO127.out))
                                        (case aS => exact (below_size (by repeat (first | (with_reducible first | exact HB.out | apply below_alloc | apply pw_below_drewN | apply below_drew1 | refine below_set ?_ GE106.out) | exact HB.out))))
                                        (case aL => have := LMc43.out; omega)
                                        intro v132 w71 ho hb hg hat
                                        rw [← Ny131.out] at ho
                                        have n0_ := Aside0.mk (blk_grown (g := gb106) (o := .cells #[.int .i64 ((rd_T37 l2 (ji20)).f0), .int .i64 ((rd_T37 l2 (ji20)).f1), .int .i64 ((rd_T37 l2 (ji20)).f2), .string ((rd_T37 l2 (ji20)).f3), .bool ((rd_T37 l2 (ji20)).f4), .bool ((rd_T37 l2 (ji20)).f5)] 37 (0, 0)) (by (with_reducible repeat (first | refine blk_drewN ?_ _ | refine blk_drew ?_ | refine blk_alloc ?_ _)); exact BK106.out) hg (Kd.R_away HO127.out (fun _ hk => hk.2.2.2)))
                                        have n1_ := Aside0.mk (Kd.R_after (ok := (fun k_ => some k_ ≠ (.slice (some ⟨go41, 0, none⟩) y118.length co41 : Value).ownBlock ∧ some k_ ≠ (.slice Ao72 y128.length co72 : Value).ownBlock ∧ k_ ≠ gb106)) (by (with_reducible repeat (first | apply Kd.R_alloc | apply Kd.R_drewN | apply Kd.R_drew)); exact Kd.R_mono HO112.out (fun _ hk => ⟨⟨hk.1, ⟨hk.2.2.1, hk.2.2.2⟩⟩, hk.2.1⟩)) hg hat)
                                        have n2_ := Aside0.mk (Kd.R_after (ok := (fun k_ => some k_ ≠ (.slice (some ⟨go37, 0, none⟩) y110.length co37 : Value).ownBlock ∧ some k_ ≠ (.slice Ao72 y128.length co72 : Value).ownBlock ∧ k_ ≠ gb106)) (by (with_reducible repeat (first | apply Kd.R_alloc | apply Kd.R_drewN | apply Kd.R_drew)); exact Kd.R_mono HO120.out (fun _ hk => ⟨⟨hk.1, ⟨hk.2.2.1, hk.2.2.2⟩⟩, hk.2.1⟩)) hg hat)
                                        have n3_ := Aside0.mk (Kd.R_after (ok := (fun k_ => some k_ ≠ (.slice (some ⟨go37, 0, none⟩) y110.length co37 : Value).ownBlock ∧ some k_ ≠ (.slice (some ⟨go41, 0, none⟩) y118.length co41 : Value).ownBlock ∧ k_ ≠ gb106)) (by (with_reducible repeat (first | apply Kd.R_alloc | apply Kd.R_drewN | apply Kd.R_drew)); exact Kd.R_mono HO130.out (fun _ hk => ⟨⟨hk.1, ⟨hk.2.1, hk.2.2.2⟩⟩, hk.2.2.1⟩)) hg hat)
                                        have n4_ := Aside0.mk (hb)
                                        have n5_ := Aside0.mk (ho)
                                        clear BK106
                                        clear HO112
                                        clear HO120
                                        clear HO130
                                        clear HB
                                        clear HO127
                                        have BK106 := n0_
                                        have HO112 := n1_
                                        have HO120 := n2_
                                        have HO130 := n3_
                                        have HB := n4_
                                        have HO133 := n5_
                                        clear n0_ n1_ n2_ n3_ n4_ n5_
                                        clear ho hb hg hat
                                        refine hK.out _ _ ⟨(blk_cell BK106.out 0).trans rfl, (blk_cell BK106.out 1).trans rfl, (blk_cell BK106.out 2).trans rfl, (blk_cell BK106.out 3).trans rfl, (blk_cell BK106.out 4).trans rfl, (blk_cell BK106.out 5).trans rfl⟩ (fun hHeld => ?_)
                                        clear hK K
                                        refine norm_ (a' := ?_) ?_ ?_
                                        rotate_left
                                        · show Act.put _ (some 121) _ = _
                                          simp only [Act.put, List.setIfInBounds_toArray, List.set_cons_zero, List.set_cons_succ, i64_w, i32_w]
                                          rfl
                                        refine pure_ (i := 14) (N := some 20) (v := ?_) (a' := ?_) #[true, true, true, true, true, true, true, true, true, true, true, true, true, true, true] rfl rfl (any_of HT_.out (by kernel_rfl)) (fun _ _ _ h => h) (Or.inl ⟨by rfl, ?_⟩) ?_ ?_
                                        rotate_left
                                        · intro w'
                                          go_simp
                                          with_reducible rfl
                                        rotate_left
                                        · simp only [Act.put, List.setIfInBounds_toArray, List.set_cons_zero, List.set_cons_succ, i64_w, i32_w]
                                          rfl
                                        refine done_ (done_of HT_.out (by kernel_rfl)) ?_
                                        try go_wp2_with (first | (go_at_call 11; refine calls_of_args (args' := #[.string a0, .bool a1, .slice (some ⟨go37, 0, none⟩) y114.length co37, .string a3, .bool a4]) (by first | (rw [show y114.length = y110.length from (Kd.R_reads' HO112.out).1.symm] <;> rfl) | rfl) ?_; (with_reducible refine (lin_Check.calls a0 a1 _ _ y114 a3 a4 true _ ?side1 ?side2 A45.out).mono ?_); (case side1 => repeat (first | exact (Kd.R_reads' HO112.out).2.2 | (with_reducible refine Kd.C_alloc ?_ _) | (with_reducible refine Kd.C_drewN ?_ _) | (with_reducible refine Kd.C_drew ?_))); (case side2 => rw [show y114.length = y110.length from (Kd.R_reads' HO112.out).1.symm]; exact (Kd.R_reads' HO112.out).2.1); rintro e w73 ⟨rfl, hb⟩; have n0_ := Aside0.mk (Kd.R_below (by (with_reducible repeat (first | apply Kd.R_alloc | apply Kd.R_drewN | apply Kd.R_drew)); exact HO112.out) hb); have n1_ := Aside0.mk (Kd.R_below (by (with_reducible repeat (first | apply Kd.R_alloc | apply Kd.R_drewN | apply Kd.R_drew)); exact HO120.out) hb); have n2_ := Aside0.mk (Kd.R_below (by (with_reducible repeat (first | apply Kd.R_alloc | apply Kd.R_drewN | apply Kd.R_drew)); exact HO130.out) hb); have n3_ := Aside0.mk (Kd.R_below (by (with_reducible repeat (first | apply Kd.R_alloc | apply Kd.R_drewN | apply Kd.R_drew)); exact HO133.out) hb); have n4_ := Aside0.mk (blk_below (g := gb106) (o := .cells #[.int .i64 ((rd_T37 l2 (ji20)).f0), .int .i64 ((rd_T37 l2 (ji20)).f1), .int .i64 ((rd_T37 l2 (ji20)).f2), .string ((rd_T37 l2 (ji20)).f3), .bool ((rd_T37 l2 (ji20)).f4), .bool ((rd_T37 l2 (ji20)).f5)] 37 (0, 0)) (by (with_reducible repeat (first | refine blk_drewN ?_ _ | refine blk_drew ?_ | refine blk_alloc ?_ _)); exact BK106.out) hb); have n5_ := Aside0.mk (below_step (by repeat (first | (with_reducible first | exact HB.out | apply below_alloc | apply pw_below_drewN | apply below_drew1 | refine below_set ?_ GE106.out) | exact HB.out)) hb); clear HO112; clear HO120; clear HO130; clear HO133; clear BK106; clear HB; have HO112 := n0_; have HO120 := n1_; have HO130 := n2_; have HO133 := n3_; have BK106 := n4_; have HB := n5_; clear n0_ n1_ n2_ n3_ n4_ n5_; (try clear hb); (try clear hb2); (try clear hk); (try clear hi)) | (go_at_call 11; refine calls_of_args (args' := #[.string a0, .bool a1, .slice (some ⟨go41, 0, none⟩) y121.length co41, .string a3, .bool a4]) (by first | (rw [show y121.length = y118.length from (Kd.R_reads' HO120.out).1.symm] <;> rfl) | rfl) ?_; (with_reducible refine (lin_Check.calls a0 a1 _ _ y121 a3 a4 true _ ?side1 ?side2 A47.out).mono ?_); (case side1 => repeat (first | exact (Kd.R_reads' HO120.out).2.2 | (with_reducible refine Kd.C_alloc ?_ _) | (with_reducible refine Kd.C_drewN ?_ _) | (with_reducible refine Kd.C_drew ?_))); (case side2 => rw [show y121.length = y118.length from (Kd.R_reads' HO120.out).1.symm]; exact (Kd.R_reads' HO120.out).2.1); rintro e w74 ⟨rfl, hb⟩; have n0_ := Aside0.mk (Kd.R_below (by (with_reducible repeat (first | apply Kd.R_alloc | apply Kd.R_drewN | apply Kd.R_drew)); exact HO112.out) hb); have n1_ := Aside0.mk (Kd.R_below (by (with_reducible repeat (first | apply Kd.R_alloc | apply Kd.R_drewN | apply Kd.R_drew)); exact HO120.out) hb); have n2_ := Aside0.mk (Kd.R_below (by (with_reducible repeat (first | apply Kd.R_alloc | apply Kd.R_drewN | apply Kd.R_drew)); exact HO130.out) hb); have n3_ := Aside0.mk (Kd.R_below (by (with_reducible repeat (first | apply Kd.R_alloc | apply Kd.R_drewN | apply Kd.R_drew)); exact HO133.out) hb); have n4_ := Aside0.mk (blk_below (g := gb106) (o := .cells #[.int .i64 ((rd_T37 l2 (ji20)).f0), .int .i64 ((rd_T37 l2 (ji20)).f1), .int .i64 ((rd_T37 l2 (ji20)).f2), .string ((rd_T37 l2 (ji20)).f3), .bool ((rd_T37 l2 (ji20)).f4), .bool ((rd_T37 l2 (ji20)).f5)] 37 (0, 0)) (by (with_reducible repeat (first | refine blk_drewN ?_ _ | refine blk_drew ?_ | refine blk_alloc ?_ _)); exact BK106.out) hb); have n5_ := Aside0.mk (below_step (by repeat (first | (with_reducible first | exact HB.out | apply below_alloc | apply pw_below_drewN | apply below_drew1 | refine below_set ?_ GE106.out) | exact HB.out)) hb); clear HO112; clear HO120; clear HO130; clear HO133; clear BK106; clear HB; have HO112 := n0_; have HO120 := n1_; have HO130 := n2_; have HO133 := n3_; have BK106 := n4_; have HB := n5_; clear n0_ n1_ n2_ n3_ n4_ n5_; (try clear hb); (try clear hb2); (try clear hk); (try clear hi); obtain ⟨Ao75, co75, eo75⟩ := Kd.R_slice HO133.out; subst eo75) | (go_at_call 11; (with_reducible refine (lin_Check.calls a0 a1 _ _ y131 a3 a4 t136 _ ?side1 ?side2 A49.out).mono ?_); (case side1 => repeat (first | exact (Kd.R_reads' HO133.out).2.2 | (with_reducible refine Kd.C_alloc ?_ _) | (with_reducible refine Kd.C_drewN ?_ _) | (with_reducible refine Kd.C_drew ?_))); (case side2 => exact (Kd.R_reads' HO133.out).2.1); rintro e w76 ⟨rfl, hb⟩; have n0_ := Aside0.mk (Kd.R_below (by (with_reducible repeat (first | apply Kd.R_alloc | apply Kd.R_drewN | apply Kd.R_drew)); exact HO112.out) hb); have n1_ := Aside0.mk (Kd.R_below (by (with_reducible repeat (first | apply Kd.R_alloc | apply Kd.R_drewN | apply Kd.R_drew)); exact HO120.out) hb); have n2_ := Aside0.mk (Kd.R_below (by (with_reducible repeat (first | apply Kd.R_alloc | apply Kd.R_drewN | apply Kd.R_drew)); exact HO130.out) hb); have n3_ := Aside0.mk (Kd.R_below (by (with_reducible repeat (first | apply Kd.R_alloc | apply Kd.R_drewN | apply Kd.R_drew)); exact HO133.out) hb); have n4_ := Aside0.mk (blk_below (g := gb106) (o := .cells #[.int .i64 ((rd_T37 l2 (ji20)).f0), .int .i64 ((rd_T37 l2 (ji20)).f1), .int .i64 ((rd_T37 l2 (ji20)).f2), .string ((rd_T37 l2 (ji20)).f3), .bool ((rd_T37 l2 (ji20)).f4), .bool ((rd_T37 l2 (ji20)).f5)] 37 (0, 0)) (by (with_reducible repeat (first | refine blk_drewN ?_ _ | refine blk_drew ?_ | refine blk_alloc ?_ _)); exact BK106.out) hb); have n5_ := Aside0.mk (below_step (by repeat (first | (with_reducible first | exact HB.out | apply below_alloc | apply pw_below_drewN | apply below_drew1 | refine below_set ?_ GE106.out) | exact HB.out)) hb); clear HO112; clear HO120; clear HO130; clear HO133; clear BK106; clear HB; have HO112 := n0_; have HO120 := n1_; have HO130 := n2_; have HO133 := n3_; have BK106 := n4_; have HB := n5_; clear n0_ n1_ n2_ n3_ n4_ n5_; (try clear hb); (try clear hb2); (try clear hk); (try clear hi)))
                                        go_ret
                                        exact ⟨by first | rfl | (simp [errW_none, errW_some] <;> rfl) | (simp only [← hji20]; first | rfl | (simp [errW_none, errW_some] <;> rfl)) | (simp [*, errW_none, errW_some] <;> rfl), by repeat (first | (with_reducible first | exact HB.out | apply below_alloc | apply pw_below_drewN | apply below_drew1 | refine below_set ?_ GE106.out) | exact HB.out)⟩
                                      · replace c48 := Bool.eq_false_iff.mpr c48
                                        subst c48
                                        have H1 : (none) = some r := by rw [if_neg (show ¬ (false = true) by decide)] at H; exact H
                                        clear H
                                        have H := H1
                                        clear H1
                                        exact absurd H (by simp)
                                    · replace c46 := Bool.eq_false_iff.mpr c46
                                      subst c46
                                      have H1 : (none) = some r := by rw [if_neg (show ¬ (false = true) by decide)] at H; exact H
                                      clear H
                                      have H := H1
                                      clear H1
                                      exact absurd H (by simp)
                                  · replace c44 := Bool.eq_false_iff.mpr c44
                                    subst c44
                                    have H1 : (none) = some r := by rw [if_neg (show ¬ (false = true) by decide)] at H; exact H
                                    clear H
                                    have H := H1
                                    clear H1
                                    exact absurd H (by simp)
                                · rw [if_neg c43] at H
                                  exact absurd H (by simp)
                              · rw [if_neg c42] at H
                                exact absurd H (by simp)
                            · rw [if_neg c40] at H
                              exact absurd H (by simp)
                          · rw [if_neg c39] at H
                            exact absurd H (by simp)
                        · rw [if_neg c36] at H
                          exact absurd H (by simp)
                      · rw [if_neg c35] at H
                        exact absurd H (by simp)
                    · rw [if_neg c34] at H
                      exact absurd H (by simp)
            · rw [if_neg c22] at H
              exact absurd H (by simp)
          · rw [if_neg c21] at H
            exact absurd H (by simp)

end
end Go.Proofs.Ytdblecmelmeibaa.PM
