/- Written by this session's own program (hprint.py) with the help of the kit's print. Lean checks it. -/
import Derived.Test.YtdblecmelmeibaaPLx0
namespace Go.Proofs.Ytdblecmelmeibaa.PL
open Go.RowKit Go.Proofs.YtdblecmelmeibaaW.PrintWords Go.Proofs.YtdblecmelmeibaaW.PrintLast Go.Proofs.YtdblecmelmeibaaW.PrintMore
attribute [local go_sem] max2_int min2_int max_two min_two max_three min_three max_four min_four   -- for this text's walks alone
set_option linter.unusedVariables false
set_option linter.unusedSimpArgs false
noncomputable section

/-! ### lamplighterref22_rest: function 25 -/
mutual
def lamplighterref22_rest.l0 : Nat → List (S37) → Int → List (S37) → Int → Option ((List (S37)))
  | 0, _, _, _, _ => none
  | k + 1, x0, x1, x5, x6 => if x6 < (x0.length : Int) then (if x6 = x1 then (lamplighterref22_rest.j1 k x0 x1 x5 x6 false) else (if 0 ≤ x6 then (if (rd_T37 x0 x6).f5 = true then (lamplighterref22_rest.j1 k x0 x1 x5 x6 true) else (if 0 ≤ x1 then (if x1 < (x0.length : Int) then (lamplighterref22_rest.j1 k x0 x1 x5 x6 (decide (((rd_T37 x0 x6).f1) ≥ ((rd_T37 x0 x1).f0)))) else (none)) else (none))) else (none))) else (some x5)
def lamplighterref22_rest.j1 : Nat → List (S37) → Int → List (S37) → Int → Bool → Option ((List (S37)))
  | 0, _, _, _, _, _ => none
  | k + 1, x0, x1, x5, x6, x35 => if x35 = true then (if 0 ≤ x6 then (if x6 < (x0.length : Int) then (if x5.length < 2932031007402 then (lamplighterref22_rest.l0 k x0 x1 (x5 ++ [(⟨(rd_T37 x0 x6).f0, (rd_T37 x0 x6).f1, (rd_T37 x0 x6).f2, (rd_T37 x0 x6).f3, (rd_T37 x0 x6).f4, (rd_T37 x0 x6).f5⟩ : S37)]) (wrap64 (x6 + 1))) else (none)) else (none)) else (none)) else (lamplighterref22_rest.l0 k x0 x1 x5 (wrap64 (x6 + 1)))
end
def lamplighterref22_rest.f (k : Nat) (l0 : List (S37)) (a1 : Int) : Option ((List (S37))) := lamplighterref22_rest.l0 k l0 a1 ([] : List (S37)) 0
theorem lamplighterref22_rest.mono_l : ∀ k, (∀ y0 y1 y2 y3, LeO (lamplighterref22_rest.l0 k y0 y1 y2 y3) (lamplighterref22_rest.l0 (k + 1) y0 y1 y2 y3)) ∧ (∀ y0 y1 y2 y3 y4, LeO (lamplighterref22_rest.j1 k y0 y1 y2 y3 y4) (lamplighterref22_rest.j1 (k + 1) y0 y1 y2 y3 y4))
  | 0 => ⟨fun _ _ _ _ r h => by simp [lamplighterref22_rest.l0] at h, fun _ _ _ _ _ r h => by simp [lamplighterref22_rest.j1] at h⟩
  | k + 1 => by
    obtain ⟨ih0, ih1⟩ := lamplighterref22_rest.mono_l k
    refine ⟨?_, ?_⟩
    · intro y0 y1 y2 y3
      unfold lamplighterref22_rest.l0
      repeat' first
      | (with_reducible exact ih0 _ _ _ _)
      | (with_reducible exact ih1 _ _ _ _ _)
      | (with_reducible exact LeO.refl _)
      | (with_reducible exact LeO.none _)
      | (with_reducible refine LeO.ite ?_ ?_)
      | (with_reducible refine LeO.bind ?_ (fun _ => ?_))
      | exact ih0 _ _ _ _
      | exact ih1 _ _ _ _ _
      | exact LeO.none _
      | refine LeO.ite ?_ ?_
      | refine LeO.bind ?_ (fun _ => ?_)
    · intro y0 y1 y2 y3 y4
      unfold lamplighterref22_rest.j1
      repeat' first
      | (with_reducible exact ih0 _ _ _ _)
      | (with_reducible exact ih1 _ _ _ _ _)
      | (with_reducible exact LeO.refl _)
      | (with_reducible exact LeO.none _)
      | (with_reducible refine LeO.ite ?_ ?_)
      | (with_reducible refine LeO.bind ?_ (fun _ => ?_))
      | exact ih0 _ _ _ _
      | exact ih1 _ _ _ _ _
      | exact LeO.none _
      | refine LeO.ite ?_ ?_
      | refine LeO.bind ?_ (fun _ => ?_)
theorem lamplighterref22_rest.mono : ∀ a0 a1 k, LeO (lamplighterref22_rest.f k a0 a1) (lamplighterref22_rest.f (k + 1) a0 a1) := by
  intro a0 a1 k
  obtain ⟨ih0, ih1⟩ := lamplighterref22_rest.mono_l k
  unfold lamplighterref22_rest.f
  repeat' first
      | (with_reducible exact ih0 _ _ _ _)
      | (with_reducible exact ih1 _ _ _ _ _)
      | (with_reducible exact LeO.refl _)
      | (with_reducible exact LeO.none _)
      | (with_reducible refine LeO.ite ?_ ?_)
      | (with_reducible refine LeO.bind ?_ (fun _ => ?_))
      | exact ih0 _ _ _ _
      | exact ih1 _ _ _ _ _
      | exact LeO.none _
      | refine LeO.ite ?_ ?_
      | refine LeO.bind ?_ (fun _ => ?_)
set_option maxHeartbeats 8000000 in
set_option maxRecDepth 100000 in
theorem lamplighterref22_rest.calls (k : Nat) (A0 : Option Addr) (c0 : Nat) (l0 : List (S37)) (a1 : Int) (r : List (S37)) (w : World) (hr0 : Kd.C k37 w A0 l0.length l0) (hc0 : l0.length ≤ c0) (h : lamplighterref22_rest.f k l0 a1 = some r) :
    Calls Try.prog 25 #[.slice A0 l0.length c0, .int .i64 a1] w fun e w' => ∃ v0_ : Value, e = .returned (v0_) ∧ Kd.R k37 37 w' w.heap.size (fun _ => True) v0_ r ∧ Below w.heap.size w w' := by
  have hu37 := Try.underlying37
  have HR0 := Aside0.mk hr0
  have HC0 := Aside0.mk hc0
  clear hr0 hc0
  have HB := Aside0.mk (Below.refl w.heap.size w)
  have H : (lamplighterref22_rest.l0 k l0 a1 ([] : List (S37)) 0) = some r := h
  clear h
  have H' := Aside0.mk H
  clear H
  go_enter Try.func25, Try.ntmps25
  go_wp2
  repeat (go_quiet (fail); try go_wp2)
  go_loopg [5, 6] k (fun kq v5 v6 w' => ∃ (x5_1 : List (S37)) (x6_1 : Int), v6 = .int .i64 x6_1 ∧ Aside0 (lamplighterref22_rest.l0 kq l0 a1 x5_1 x6_1 = some r) ∧ Aside0 (kq ≤ k) ∧ Aside0 (Kd.R k37 37 w' w.heap.size (fun _ => True) v5 x5_1) ∧ Aside0 (Below w.heap.size w w'))
  case atStart => exact ⟨(([] : List (S37))), (0), (by first | rfl | (simp; done) | (simp [*]; done)), H', ⟨Nat.le_refl _⟩, ⟨by first | exact Kd.R_nil _ _ _ _ _ | exact Kd.N_nil _ _ _ _ _ | exact Kd.V_nil _ _ _ _ _ | exact Kd.Q_nil _ _ _ _ _ | exact Kd.S_nil _ _ _ _ _⟩, ⟨by repeat (first | (with_reducible first | exact HB.out | apply below_alloc | apply pw_below_drewN | apply below_drew1) | exact HB.out)⟩⟩
  case round =>
    clear H'
    try clear c2
    try clear p2
    obtain ⟨x5_1, x6_1, rfl, HA, HK1, HO_5, HB⟩ := hrel
    cases gk with
    | zero => exact absurd HA.out (by simp [lamplighterref22_rest.l0])
    | succ k1 =>
      have H := HA.out
      clear HA
      simp only [lamplighterref22_rest.l0] at H
      by_cases c3 : x6_1 < (l0.length : Int)
      · rw [if_pos c3] at H
        have c3b0 : decide (x6_1 < (l0.length : Int)) = true := decide_eq_true c3
        clear c3
        have HC4 := Aside0.mk H
        clear H
        go_upto_region 5 with (fail)
        repeat (go_quiet (fail); go_upto_region 5 with (fail))
        go_cut [35] (fun v35 wc => ∃ (kq : Nat) (x35_3 : Bool), v35 = .bool x35_3 ∧ Aside0 (lamplighterref22_rest.j1 kq l0 a1 x5_1 x6_1 x35_3 = some r) ∧ Aside0 (kq ≤ k1) ∧ Aside0 (Kd.R k37 37 wc w.heap.size (fun _ => True) u5 x5_1) ∧ Aside0 (Below w.heap.size w wc))
        case first =>
          have H := HC4.out
          clear HC4
          by_cases c5 : x6_1 = a1
          · rw [if_pos c5] at H
            have c5b0 : (x6_1 == a1) = true := beq_iff_eq.mpr c5
            have c5b1 : (x6_1 != a1) = false := bne_eq_false_iff_eq.mpr c5
            clear c5
            (first | rw [c5b0] | (simp only [i64_w, i32_w]; rw [c5b0]) | skip)
            have H' := Aside0.mk H
            clear H
            go_wp2
            repeat (go_quiet (fail); try go_wp2)
            go_meet
            case rel => exact ⟨_, (false), (by first | rfl | (simp; done) | (simp [*]; done)), H', ⟨by have := HK1.out; first | omega | exact Nat.le_refl _⟩, ⟨by (with_reducible repeat (first | apply Kd.R_alloc | apply Kd.R_drewN | apply Kd.R_drew)); exact HO_5.out⟩, ⟨by repeat (first | (with_reducible first | exact HB.out | apply below_alloc | apply pw_below_drewN | apply below_drew1) | exact HB.out)⟩⟩
          · rw [if_neg c5] at H
            have c5b0 : (x6_1 == a1) = false := beq_eq_false_iff_ne.mpr c5
            have c5b1 : (x6_1 != a1) = true := bne_iff_ne.mpr c5
            (first | rw [c5b0] | (simp only [i64_w, i32_w]; rw [c5b0]) | skip)
            by_cases c6 : 0 ≤ x6_1
            · rw [if_pos c6] at H
              have c6b0 : decide (0 ≤ x6_1) = true := decide_eq_true c6
              clear c6
              obtain ⟨bq7, hbq7⟩ : ∃ b_ : Bool, b_ = ((rd_T37 l0 x6_1).f5) := ⟨_, rfl⟩
              replace H : (if bq7 = true then (lamplighterref22_rest.j1 k1 l0 a1 x5_1 x6_1 true) else (if 0 ≤ a1 then (if a1 < (l0.length : Int) then (lamplighterref22_rest.j1 k1 l0 a1 x5_1 x6_1 (decide (((rd_T37 l0 x6_1).f1) ≥ ((rd_T37 l0 a1).f0)))) else (none)) else (none))) = some r := by rw [← hbq7] at H; exact H
              have Nbq7 := Aside0.mk hbq7
              clear hbq7
              by_cases c8 : bq7 = true
              · subst c8
                have H1 : (lamplighterref22_rest.j1 k1 l0 a1 x5_1 x6_1 true) = some r := by rw [if_pos rfl] at H; exact H
                clear H
                have H := H1
                clear H1
                have H' := Aside0.mk H
                clear H
                have p110 : 0 ≤ (x6_1 : Int) := of_decide_eq_true (by first | (with_reducible assumption) | assumption)
                have q110 : x6_1 < (l0.length : Int) := of_decide_eq_true (by first | (with_reducible assumption) | assumption)
                obtain ⟨ad110, e110, hx110_0, hx110_1, hx110_2, hx110_3, hx110_4, hx110_5⟩ := at_T37 HR0.out x6_1 p110 q110
                (try rw [← Nbq7.out] at hx110_4)
                (try rw [← Nbq7.out] at hx110_5)
                cases e110
                replace hx110_0 := (HB.out.cell (World.block_lt_of_cell? w _ hx110_0)).trans hx110_0
                replace hx110_1 := (HB.out.cell (World.block_lt_of_cell? w _ hx110_1)).trans hx110_1
                replace hx110_2 := (HB.out.cell (World.block_lt_of_cell? w _ hx110_2)).trans hx110_2
                replace hx110_3 := (HB.out.cell (World.block_lt_of_cell? w _ hx110_3)).trans hx110_3
                replace hx110_4 := (HB.out.cell (World.block_lt_of_cell? w _ hx110_4)).trans hx110_4
                replace hx110_5 := (HB.out.cell (World.block_lt_of_cell? w _ hx110_5)).trans hx110_5
                replace p110 := eq_true p110
                replace q110 := eq_true q110
                go_wp2
                repeat (go_quiet (fail); try go_wp2)
                go_meet
                case rel => exact ⟨_, (true), (by first | rfl | (simp; done) | (simp [*]; done)), H', ⟨by have := HK1.out; first | omega | exact Nat.le_refl _⟩, ⟨by (with_reducible repeat (first | apply Kd.R_alloc | apply Kd.R_drewN | apply Kd.R_drew)); exact HO_5.out⟩, ⟨by repeat (first | (with_reducible first | exact HB.out | apply below_alloc | apply pw_below_drewN | apply below_drew1) | exact HB.out)⟩⟩
              · replace c8 := Bool.eq_false_iff.mpr c8
                subst c8
                have H1 : (if 0 ≤ a1 then (if a1 < (l0.length : Int) then (lamplighterref22_rest.j1 k1 l0 a1 x5_1 x6_1 (decide (((rd_T37 l0 x6_1).f1) ≥ ((rd_T37 l0 a1).f0)))) else (none)) else (none)) = some r := by rw [if_neg (show ¬ (false = true) by decide)] at H; exact H
                clear H
                have H := H1
                clear H1
                by_cases c9 : 0 ≤ a1
                · rw [if_pos c9] at H
                  have c9b0 : decide (0 ≤ a1) = true := decide_eq_true c9
                  clear c9
                  by_cases c10 : a1 < (l0.length : Int)
                  · rw [if_pos c10] at H
                    have c10b0 : decide (a1 < (l0.length : Int)) = true := decide_eq_true c10
                    clear c10
                    have H' := Aside0.mk H
                    clear H
                    have p110 : 0 ≤ (x6_1 : Int) := of_decide_eq_true (by first | (with_reducible assumption) | assumption)
                    have q110 : x6_1 < (l0.length : Int) := of_decide_eq_true (by first | (with_reducible assumption) | assumption)
                    obtain ⟨ad110, e110, hx110_0, hx110_1, hx110_2, hx110_3, hx110_4, hx110_5⟩ := at_T37 HR0.out x6_1 p110 q110
                    (try rw [← Nbq7.out] at hx110_4)
                    (try rw [← Nbq7.out] at hx110_5)
                    cases e110
                    replace hx110_0 := (HB.out.cell (World.block_lt_of_cell? w _ hx110_0)).trans hx110_0
                    replace hx110_1 := (HB.out.cell (World.block_lt_of_cell? w _ hx110_1)).trans hx110_1
                    replace hx110_2 := (HB.out.cell (World.block_lt_of_cell? w _ hx110_2)).trans hx110_2
                    replace hx110_3 := (HB.out.cell (World.block_lt_of_cell? w _ hx110_3)).trans hx110_3
                    replace hx110_4 := (HB.out.cell (World.block_lt_of_cell? w _ hx110_4)).trans hx110_4
                    replace hx110_5 := (HB.out.cell (World.block_lt_of_cell? w _ hx110_5)).trans hx110_5
                    replace p110 := eq_true p110
                    replace q110 := eq_true q110
                    have p111 : 0 ≤ (x6_1 : Int) := of_decide_eq_true (by first | (with_reducible assumption) | assumption)
                    have q111 : x6_1 < (l0.length : Int) := of_decide_eq_true (by first | (with_reducible assumption) | assumption)
                    obtain ⟨ad111, e111, hx111_0, hx111_1, hx111_2, hx111_3, hx111_4, hx111_5⟩ := at_T37 HR0.out x6_1 p111 q111
                    (try rw [← Nbq7.out] at hx111_4)
                    (try rw [← Nbq7.out] at hx111_5)
                    obtain rfl : ad110 = ad111 := (by injection e111)
                    replace hx111_0 := (HB.out.cell (World.block_lt_of_cell? w _ hx111_0)).trans hx111_0
                    replace hx111_1 := (HB.out.cell (World.block_lt_of_cell? w _ hx111_1)).trans hx111_1
                    replace hx111_2 := (HB.out.cell (World.block_lt_of_cell? w _ hx111_2)).trans hx111_2
                    replace hx111_3 := (HB.out.cell (World.block_lt_of_cell? w _ hx111_3)).trans hx111_3
                    replace hx111_4 := (HB.out.cell (World.block_lt_of_cell? w _ hx111_4)).trans hx111_4
                    replace hx111_5 := (HB.out.cell (World.block_lt_of_cell? w _ hx111_5)).trans hx111_5
                    replace p111 := eq_true p111
                    replace q111 := eq_true q111
                    have p112 : 0 ≤ (a1 : Int) := of_decide_eq_true (by first | (with_reducible assumption) | assumption)
                    have q112 : a1 < (l0.length : Int) := of_decide_eq_true (by first | (with_reducible assumption) | assumption)
                    obtain ⟨ad112, e112, hx112_0, hx112_1, hx112_2, hx112_3, hx112_4, hx112_5⟩ := at_T37 HR0.out a1 p112 q112
                    (try rw [← Nbq7.out] at hx112_4)
                    (try rw [← Nbq7.out] at hx112_5)
                    obtain rfl : ad110 = ad112 := (by injection e112)
                    replace hx112_0 := (HB.out.cell (World.block_lt_of_cell? w _ hx112_0)).trans hx112_0
                    replace hx112_1 := (HB.out.cell (World.block_lt_of_cell? w _ hx112_1)).trans hx112_1
                    replace hx112_2 := (HB.out.cell (World.block_lt_of_cell? w _ hx112_2)).trans hx112_2
                    replace hx112_3 := (HB.out.cell (World.block_lt_of_cell? w _ hx112_3)).trans hx112_3
                    replace hx112_4 := (HB.out.cell (World.block_lt_of_cell? w _ hx112_4)).trans hx112_4
                    replace hx112_5 := (HB.out.cell (World.block_lt_of_cell? w _ hx112_5)).trans hx112_5
                    replace p112 := eq_true p112
                    replace q112 := eq_true q112
                    go_wp2
                    repeat (go_quiet (fail); try go_wp2)
                    go_meet
                    case rel => exact ⟨_, (decide (((rd_T37 l0 x6_1).f1) ≥ ((rd_T37 l0 a1).f0))), (by first | rfl | (simp; done) | (simp [*]; done)), H', ⟨by have := HK1.out; first | omega | exact Nat.le_refl _⟩, ⟨by (with_reducible repeat (first | apply Kd.R_alloc | apply Kd.R_drewN | apply Kd.R_drew)); exact HO_5.out⟩, ⟨by repeat (first | (with_reducible first | exact HB.out | apply below_alloc | apply pw_below_drewN | apply below_drew1) | exact HB.out)⟩⟩
                  · rw [if_neg c10] at H
                    exact absurd H (by simp)
                · rw [if_neg c9] at H
                  exact absurd H (by simp)
            · rw [if_neg c6] at H
              exact absurd H (by simp)
        case rest =>
          clear HC4
          try clear c1
          try clear p1
          try clear q1
          try clear hx1
          try clear c2
          try clear p2
          try clear c3
          try clear c3b0
          try clear c5
          try clear c5b0
          try clear c5b1
          try clear c6
          try clear c6b0
          try clear q7
          try clear c8
          try clear c9
          try clear c9b0
          try clear c10
          try clear c10b0
          try clear hx110_0
          try clear hx110_1
          try clear hx110_2
          try clear hx110_3
          try clear hx110_4
          try clear hx110_5
          try clear hx111_0
          try clear hx111_1
          try clear hx111_2
          try clear hx111_3
          try clear hx111_4
          try clear hx111_5
          try clear hx112_0
          try clear hx112_1
          try clear hx112_2
          try clear hx112_3
          try clear hx112_4
          try clear hx112_5
          try clear p110
          try clear p111
          try clear p112
          try clear p2
          try clear q110
          try clear q111
          try clear q112
          obtain ⟨kq, x35_3, rfl, HA, HJ3, HO_5, HB⟩ := hcut
          cases kq with
          | zero => exact absurd HA.out (by simp [lamplighterref22_rest.j1])
          | succ kj3 =>
            have H := HA.out
            clear HA
            simp only [lamplighterref22_rest.j1] at H
            by_cases c11 : x35_3 = true
            · subst c11
              have H1 : (if 0 ≤ x6_1 then (if x6_1 < (l0.length : Int) then (if x5_1.length < 2932031007402 then (lamplighterref22_rest.l0 kj3 l0 a1 (x5_1 ++ [(⟨(rd_T37 l0 x6_1).f0, (rd_T37 l0 x6_1).f1, (rd_T37 l0 x6_1).f2, (rd_T37 l0 x6_1).f3, (rd_T37 l0 x6_1).f4, (rd_T37 l0 x6_1).f5⟩ : S37)]) (wrap64 (x6_1 + 1))) else (none)) else (none)) else (none)) = some r := by rw [if_pos rfl] at H; exact H
              clear H
              have H := H1
              clear H1
              by_cases c12 : 0 ≤ x6_1
              · rw [if_pos c12] at H
                have c12b0 : decide (0 ≤ x6_1) = true := decide_eq_true c12
                clear c12
                by_cases c13 : x6_1 < (l0.length : Int)
                · rw [if_pos c13] at H
                  have c13b0 : decide (x6_1 < (l0.length : Int)) = true := decide_eq_true c13
                  clear c13
                  by_cases c14 : x5_1.length < 2932031007402
                  · rw [if_pos c14] at H
                    have LMc14 := Aside0.mk c14
                    clear c14
                    obtain ⟨y114, hy114⟩ : ∃ y_ : List (S37), y_ = (x5_1 ++ [(⟨(rd_T37 l0 x6_1).f0, (rd_T37 l0 x6_1).f1, (rd_T37 l0 x6_1).f2, (rd_T37 l0 x6_1).f3, (rd_T37 l0 x6_1).f4, (rd_T37 l0 x6_1).f5⟩ : S37)]) := ⟨_, rfl⟩
                    replace H : (lamplighterref22_rest.l0 kj3 l0 a1 y114 (wrap64 (x6_1 + 1))) = some r := by first | (rw [hy114]; with_reducible exact H) | (have H2_ := (Option.bind_some _ _).symm.trans H; rw [hy114]; with_reducible exact H2_) | (have H2_ := (Option.bind_some _ _).symm.trans H; with_reducible exact H2_) | with_reducible exact H | (rw [hy114]; exact H) | exact H
                    have Ny114 := Aside0.mk hy114
                    clear hy114
                    have H' := Aside0.mk H
                    clear H
                    have p113 : 0 ≤ (x6_1 : Int) := of_decide_eq_true (by first | (with_reducible assumption) | assumption)
                    have q113 : x6_1 < (l0.length : Int) := of_decide_eq_true (by first | (with_reducible assumption) | assumption)
                    obtain ⟨ad113, e113, hx113_0, hx113_1, hx113_2, hx113_3, hx113_4, hx113_5⟩ := at_T37 HR0.out x6_1 p113 q113
                    cases e113
                    replace hx113_0 := (HB.out.cell (World.block_lt_of_cell? w _ hx113_0)).trans hx113_0
                    replace hx113_1 := (HB.out.cell (World.block_lt_of_cell? w _ hx113_1)).trans hx113_1
                    replace hx113_2 := (HB.out.cell (World.block_lt_of_cell? w _ hx113_2)).trans hx113_2
                    replace hx113_3 := (HB.out.cell (World.block_lt_of_cell? w _ hx113_3)).trans hx113_3
                    replace hx113_4 := (HB.out.cell (World.block_lt_of_cell? w _ hx113_4)).trans hx113_4
                    replace hx113_5 := (HB.out.cell (World.block_lt_of_cell? w _ hx113_5)).trans hx113_5
                    replace p113 := eq_true p113
                    replace q113 := eq_true q113
                    go_wp2_with (first | ((with_reducible refine gate_builtin (b := .append) (xs := #[.tmp 36, .tmp 41]) rfl ?_); at_builtin; refine Kd.R_append k37 (w0 := w) w.heap.size rfl (.tmp 36) (.tmp 41) 22 37 (.agg #[(.int .i64 0), (.int .i64 0), (.int .i64 0), (.string ⟨#[]⟩), (.bool false), (.bool false)]) 48 rfl Try.underlying22 info37 rfl (by decide) (by omega) u5 x5_1 (⟨(rd_T37 l0 x6_1).f0, (rd_T37 l0 x6_1).f1, (rd_T37 l0 x6_1).f2, (rd_T37 l0 x6_1).f3, (rd_T37 l0 x6_1).f4, (rd_T37 l0 x6_1).f5⟩ : S37) [.int .i64 ((rd_T37 l0 x6_1).f0), .int .i64 ((rd_T37 l0 x6_1).f1), .int .i64 ((rd_T37 l0 x6_1).f2), .string ((rd_T37 l0 x6_1).f3), .bool ((rd_T37 l0 x6_1).f4), .bool ((rd_T37 l0 x6_1).f5)] (fun _ => True) (fun _ => False) rfl rfl ?aP (fun _ hk => hk.elim) ?aF ?aO ?aB ?aS ?aL ?_; (case aP => exact k37_mkM _ _ _ (⟨(rd_T37 l0 x6_1).f0, (rd_T37 l0 x6_1).f1, (rd_T37 l0 x6_1).f2, (rd_T37 l0 x6_1).f3, (rd_T37 l0 x6_1).f4, (rd_T37 l0 x6_1).f5⟩ : S37)); (case aB => exact (by repeat (first | (with_reducible first | exact HB.out | apply below_alloc | apply pw_below_drewN | apply below_drew1) | exact HB.out))); (case aF => exact (fun _ _ => trivial)); (case aO => exact (by (with_reducible repeat (first | apply Kd.R_alloc | apply Kd.R_drewN | apply Kd.R_drew)); exact HO_5.out)); (case aS => exact (below_size (by repeat (first | (with_reducible first | exact HB.out | apply below_alloc | apply pw_below_drewN | apply below_drew1) | exact HB.out)))); (case aL => have := LMc14.out; omega); intro v115 w15 ho hb hg hat; rw [← Ny114.out] at ho; have n0_ := Aside0.mk (hb); have n1_ := Aside0.mk (ho); clear HB; clear HO_5; have HB := n0_; have HO116 := n1_; clear n0_ n1_; clear ho hb hg hat))
                    repeat (go_quiet (first | ((with_reducible refine gate_builtin (b := .append) (xs := #[.tmp 36, .tmp 41]) rfl ?_); at_builtin; refine Kd.R_append k37 (w0 := w) w.heap.size rfl (.tmp 36) (.tmp 41) 22 37 (.agg #[(.int .i64 0), (.int .i64 0), (.int .i64 0), (.string ⟨#[]⟩), (.bool false), (.bool false)]) 48 rfl Try.underlying22 info37 rfl (by decide) (by omega) u5 x5_1 (⟨(rd_T37 l0 x6_1).f0, (rd_T37 l0 x6_1).f1, (rd_T37 l0 x6_1).f2, (rd_T37 l0 x6_1).f3, (rd_T37 l0 x6_1).f4, (rd_T37 l0 x6_1).f5⟩ : S37) [.int .i64 ((rd_T37 l0 x6_1).f0), .int .i64 ((rd_T37 l0 x6_1).f1), .int .i64 ((rd_T37 l0 x6_1).f2), .string ((rd_T37 l0 x6_1).f3), .bool ((rd_T37 l0 x6_1).f4), .bool ((rd_T37 l0 x6_1).f5)] (fun _ => True) (fun _ => False) rfl rfl ?aP (fun _ hk => hk.elim) ?aF ?aO ?aB ?aS ?aL ?_; (case aP => exact k37_mkM _ _ _ (⟨(rd_T37 l0 x6_1).f0, (rd_T37 l0 x6_1).f1, (rd_T37 l0 x6_1).f2, (rd_T37 l0 x6_1).f3, (rd_T37 l0 x6_1).f4, (rd_T37 l0 x6_1).f5⟩ : S37)); (case aB => exact (by repeat (first | (with_reducible first | exact HB.out | apply below_alloc | apply pw_below_drewN | apply below_drew1) | exact HB.out))); (case aF => exact (fun _ _ => trivial)); (case aO => exact (by (with_reducible repeat (first | apply Kd.R_alloc | apply Kd.R_drewN | apply Kd.R_drew)); exact HO_5.out)); (case aS => exact (below_size (by repeat (first | (with_reducible first | exact HB.out | apply below_alloc | apply pw_below_drewN | apply below_drew1) | exact HB.out)))); (case aL => have := LMc14.out; omega); intro v115 w15 ho hb hg hat; rw [← Ny114.out] at ho; have n0_ := Aside0.mk (hb); have n1_ := Aside0.mk (ho); clear HB; clear HO_5; have HB := n0_; have HO116 := n1_; clear n0_ n1_; clear ho hb hg hat)); try go_wp2_with (first | ((with_reducible refine gate_builtin (b := .append) (xs := #[.tmp 36, .tmp 41]) rfl ?_); at_builtin; refine Kd.R_append k37 (w0 := w) w.heap.size rfl (.tmp 36) (.tmp 41) 22 37 (.agg #[(.int .i64 0), (.int .i64 0), (.int .i64 0), (.string ⟨#[]⟩), (.bool false), (.bool false)]) 48 rfl Try.underlying22 info37 rfl (by decide) (by omega) u5 x5_1 (⟨(rd_T37 l0 x6_1).f0, (rd_T37 l0 x6_1).f1, (rd_T37 l0 x6_1).f2, (rd_T37 l0 x6_1).f3, (rd_T37 l0 x6_1).f4, (rd_T37 l0 x6_1).f5⟩ : S37) [.int .i64 ((rd_T37 l0 x6_1).f0), .int .i64 ((rd_T37 l0 x6_1).f1), .int .i64 ((rd_T37 l0 x6_1).f2), .string ((rd_T37 l0 x6_1).f3), .bool ((rd_T37 l0 x6_1).f4), .bool ((rd_T37 l0 x6_1).f5)] (fun _ => True) (fun _ => False) rfl rfl ?aP (fun _ hk => hk.elim) ?aF ?aO ?aB ?aS ?aL ?_; (case aP => exact k37_mkM _ _ _ (⟨(rd_T37 l0 x6_1).f0, (rd_T37 l0 x6_1).f1, (rd_T37 l0 x6_1).f2, (rd_T37 l0 x6_1).f3, (rd_T37 l0 x6_1).f4, (rd_T37 l0 x6_1).f5⟩ : S37)); (case aB => exact (by repeat (first | (with_reducible first | exact HB.out | apply below_alloc | apply pw_below_drewN | apply below_drew1) | exact HB.out))); (case aF => exact (fun _ _ => trivial)); (case aO => exact (by (with_reducible repeat (first | apply Kd.R_alloc | apply Kd.R_drewN | apply Kd.R_drew)); exact HO_5.out)); (case aS => exact (below_size (by repeat (first | (with_reducible first | exact HB.out | apply below_alloc | apply pw_below_drewN | apply below_drew1) | exact HB.out)))); (case aL => have := LMc14.out; omega); intro v115 w15 ho hb hg hat; rw [← Ny114.out] at ho; have n0_ := Aside0.mk (hb); have n1_ := Aside0.mk (ho); clear HB; clear HO_5; have HB := n0_; have HO116 := n1_; clear n0_ n1_; clear ho hb hg hat)))
                    go_roundg kj3
                    case measure => have := HK1.out; have := HJ3.out; omega
                    case rel => exact ⟨(y114), (wrap64 (x6_1 + 1)), (by first | rfl | (simp; done) | (simp [*]; done)), H', ⟨by have := HK1.out; have := HJ3.out; omega⟩, ⟨by (with_reducible repeat (first | apply Kd.R_alloc | apply Kd.R_drewN | apply Kd.R_drew)); exact HO116.out⟩, ⟨by repeat (first | (with_reducible first | exact HB.out | apply below_alloc | apply pw_below_drewN | apply below_drew1) | exact HB.out)⟩⟩
                  · rw [if_neg c14] at H
                    exact absurd H (by simp)
                · rw [if_neg c13] at H
                  exact absurd H (by simp)
              · rw [if_neg c12] at H
                exact absurd H (by simp)
            · replace c11 := Bool.eq_false_iff.mpr c11
              subst c11
              have H1 : (lamplighterref22_rest.l0 kj3 l0 a1 x5_1 (wrap64 (x6_1 + 1))) = some r := by rw [if_neg (show ¬ (false = true) by decide)] at H; exact H
              clear H
              have H := H1
              clear H1
              have H' := Aside0.mk H
              clear H
              go_wp2
              repeat (go_quiet (fail); try go_wp2)
              go_roundg kj3
              case measure => have := HK1.out; have := HJ3.out; omega
              case rel => exact ⟨(x5_1), (wrap64 (x6_1 + 1)), (by first | rfl | (simp; done) | (simp [*]; done)), H', ⟨by have := HK1.out; have := HJ3.out; omega⟩, ⟨by (with_reducible repeat (first | apply Kd.R_alloc | apply Kd.R_drewN | apply Kd.R_drew)); exact HO_5.out⟩, ⟨by repeat (first | (with_reducible first | exact HB.out | apply below_alloc | apply pw_below_drewN | apply below_drew1) | exact HB.out)⟩⟩
      · rw [if_neg c3] at H
        have c3b0 : decide (x6_1 < (l0.length : Int)) = false := decide_eq_false c3
        clear c3
        obtain rfl := Option.some.inj H
        go_wp2
        repeat (go_quiet (fail); try go_wp2)
        go_ret
        exact ⟨_, by first | rfl | (simp [errW_none, errW_some] <;> rfl) | (simp [*, errW_none, errW_some] <;> rfl), by (with_reducible repeat (first | apply Kd.R_alloc | apply Kd.R_drewN | apply Kd.R_drew)); exact HO_5.out, by repeat (first | (with_reducible first | exact HB.out | apply below_alloc | apply pw_below_drewN | apply below_drew1) | exact HB.out)⟩

end
end Go.Proofs.Ytdblecmelmeibaa.PL
