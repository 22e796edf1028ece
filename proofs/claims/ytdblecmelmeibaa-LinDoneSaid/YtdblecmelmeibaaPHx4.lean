/- Written by this session's own program (hprint.py) with the help of the kit's print. Lean checks it. -/
import Derived.Test.YtdblecmelmeibaaPHx0
import Derived.Test.YtdblecmelmeibaaPHx3
import Derived.Test.YtdblecmelmeibaaGiven
namespace Go.Proofs.Ytdblecmelmeibaa.PH
open Go.RowKit Go.Proofs.YtdblecmelmeibaaW.PrintWords Go.Proofs.YtdblecmelmeibaaW.PrintLast Go.Proofs.YtdblecmelmeibaaW.PrintMore
attribute [local go_sem] max2_int min2_int max_two min_two max_three min_three max_four min_four   -- for this text's walks alone
set_option linter.unusedVariables false
set_option linter.unusedSimpArgs false
noncomputable section

/-! ### lamplighterlaw22_LinDone: function 4 -/
mutual
def lamplighterlaw22_LinDone.l0 : Nat → List (S33) → Int → Bool → Int → Option (Bool)
  | 0, _, _, _, _ => none
  | k + 1, x0, x1, x5, x6 => if x6 < (x0.length : Int) then (if 0 ≤ x6 then (if (((rd_T33 x0 x6).f1).size : Int) > 100 then (some x5) else (lamplighterlaw22_LinDone.l0 k x0 x1 x5 (wrap64 (x6 + 1)))) else (none)) else ((lamplighterlaw22_done.f k x0).bind fun bt157 => (lamplighterlaw22_LinDone.l1 k x1 x5 bt157.1 bt157.2.1 bt157.2.2 ([] : List (S37)) 0))
def lamplighterlaw22_LinDone.l1 : Nat → Int → Bool → List (S37) → ByteArray → Bool → List (S37) → Int → Option (Bool)
  | 0, _, _, _, _, _, _, _ => none
  | k + 1, x1, x5, x7, x8, x9, x10, x11 => if x11 < (x7.length : Int) then (if (x7.length : Int) = 0 then (none) else (if 0 ≤ (Int.tmod (wrap64 (x11 + (wrap64 (x1)))) (x7.length : Int)) then (if (Int.tmod (wrap64 (x11 + (wrap64 (x1)))) (x7.length : Int)) < (x7.length : Int) then (if x10.length < 2932031007402 then (lamplighterlaw22_LinDone.l1 k x1 x5 x7 x8 x9 (x10 ++ [(⟨(rd_T37 x7 (Int.tmod (wrap64 (x11 + (wrap64 (x1)))) (x7.length : Int))).f0, (rd_T37 x7 (Int.tmod (wrap64 (x11 + (wrap64 (x1)))) (x7.length : Int))).f1, (rd_T37 x7 (Int.tmod (wrap64 (x11 + (wrap64 (x1)))) (x7.length : Int))).f2, (rd_T37 x7 (Int.tmod (wrap64 (x11 + (wrap64 (x1)))) (x7.length : Int))).f3, (rd_T37 x7 (Int.tmod (wrap64 (x11 + (wrap64 (x1)))) (x7.length : Int))).f4, (rd_T37 x7 (Int.tmod (wrap64 (x11 + (wrap64 (x1)))) (x7.length : Int))).f5⟩ : S37)]) (wrap64 (x11 + 1))) else (none)) else (none)) else (none))) else (if x5 = true then ((lin_Check.f (⟨#[]⟩ : ByteArray) false x7 x8 x9).bind fun t166 => (if t166 = true then ((lin_Check.f (⟨#[]⟩ : ByteArray) false x10 x8 x9).bind fun t167 => (some t167)) else (some false))) else (some false))
end
def lamplighterlaw22_LinDone.f (k : Nat) (l0 : List (S33)) (a1 : Int) : Option (Bool) := (lamplighterlaw22_awake.f).bind fun t155 => (if (l0.length : Int) > 12 then (some t155) else (lamplighterlaw22_LinDone.l0 k l0 a1 t155 0))
theorem lamplighterlaw22_LinDone.mono_l : ∀ k, (∀ y0 y1 y2 y3, LeO (lamplighterlaw22_LinDone.l0 k y0 y1 y2 y3) (lamplighterlaw22_LinDone.l0 (k + 1) y0 y1 y2 y3)) ∧ (∀ y0 y1 y2 y3 y4 y5 y6, LeO (lamplighterlaw22_LinDone.l1 k y0 y1 y2 y3 y4 y5 y6) (lamplighterlaw22_LinDone.l1 (k + 1) y0 y1 y2 y3 y4 y5 y6))
  | 0 => ⟨fun _ _ _ _ r h => by simp [lamplighterlaw22_LinDone.l0] at h, fun _ _ _ _ _ _ _ r h => by simp [lamplighterlaw22_LinDone.l1] at h⟩
  | k + 1 => by
    obtain ⟨ih0, ih1⟩ := lamplighterlaw22_LinDone.mono_l k
    refine ⟨?_, ?_⟩
    · intro y0 y1 y2 y3
      unfold lamplighterlaw22_LinDone.l0
      repeat' first
      | (with_reducible exact ih0 _ _ _ _)
      | (with_reducible exact ih1 _ _ _ _ _ _ _)
      | (with_reducible exact lamplighterlaw22_done.mono _ _)
      | (with_reducible exact LeO.refl _)
      | (with_reducible exact LeO.none _)
      | (with_reducible refine LeO.ite ?_ ?_)
      | (with_reducible refine LeO.bind ?_ (fun _ => ?_))
      | exact ih0 _ _ _ _
      | exact ih1 _ _ _ _ _ _ _
      | exact lamplighterlaw22_done.mono _ _
      | exact LeO.none _
      | refine LeO.ite ?_ ?_
      | refine LeO.bind ?_ (fun _ => ?_)
    · intro y0 y1 y2 y3 y4 y5 y6
      unfold lamplighterlaw22_LinDone.l1
      repeat' first
      | (with_reducible exact ih0 _ _ _ _)
      | (with_reducible exact ih1 _ _ _ _ _ _ _)
      | (with_reducible exact lamplighterlaw22_done.mono _ _)
      | (with_reducible exact LeO.refl _)
      | (with_reducible exact LeO.none _)
      | (with_reducible refine LeO.ite ?_ ?_)
      | (with_reducible refine LeO.bind ?_ (fun _ => ?_))
      | exact ih0 _ _ _ _
      | exact ih1 _ _ _ _ _ _ _
      | exact lamplighterlaw22_done.mono _ _
      | exact LeO.none _
      | refine LeO.ite ?_ ?_
      | refine LeO.bind ?_ (fun _ => ?_)
theorem lamplighterlaw22_LinDone.mono : ∀ a0 a1 k, LeO (lamplighterlaw22_LinDone.f k a0 a1) (lamplighterlaw22_LinDone.f (k + 1) a0 a1) := by
  intro a0 a1 k
  obtain ⟨ih0, ih1⟩ := lamplighterlaw22_LinDone.mono_l k
  unfold lamplighterlaw22_LinDone.f
  repeat' first
      | (with_reducible exact ih0 _ _ _ _)
      | (with_reducible exact ih1 _ _ _ _ _ _ _)
      | (with_reducible exact lamplighterlaw22_done.mono _ _)
      | (with_reducible exact LeO.refl _)
      | (with_reducible exact LeO.none _)
      | (with_reducible refine LeO.ite ?_ ?_)
      | (with_reducible refine LeO.bind ?_ (fun _ => ?_))
      | exact ih0 _ _ _ _
      | exact ih1 _ _ _ _ _ _ _
      | exact lamplighterlaw22_done.mono _ _
      | exact LeO.none _
      | refine LeO.ite ?_ ?_
      | refine LeO.bind ?_ (fun _ => ?_)
set_option maxHeartbeats 8000000 in
set_option maxRecDepth 100000 in
theorem lamplighterlaw22_LinDone.calls (k : Nat) (A0 : Option Addr) (c0 : Nat) (l0 : List (S33)) (a1 : Int) (r : Bool) (w : World) (hr0 : Kd.C k33 w A0 l0.length l0) (hc0 : l0.length ≤ c0) (h : lamplighterlaw22_LinDone.f k l0 a1 = some r) :
    Calls Try.prog 4 #[.slice A0 l0.length c0, .int .u8 a1] w fun e w' => e = .returned (.bool r) ∧ Below w.heap.size w w' := by
  have hu37 := Try.underlying37
  have HR0 := Aside0.mk hr0
  have HC0 := Aside0.mk hc0
  clear hr0 hc0
  have HB := Aside0.mk (Below.refl w.heap.size w)
  have H : ((lamplighterlaw22_awake.f).bind fun t155 => (if (l0.length : Int) > 12 then (some t155) else (lamplighterlaw22_LinDone.l0 k l0 a1 t155 0))) = some r := h
  clear h
  replace H := Option.bind_eq_some_iff.mp H
  obtain ⟨t155, A30, H⟩ := H
  replace H : (if (l0.length : Int) > 12 then (some t155) else (lamplighterlaw22_LinDone.l0 k l0 a1 t155 0)) = some r := H
  have A3 := Aside0.mk A30
  clear A30
  by_cases c4 : (l0.length : Int) > 12
  · rw [if_pos c4] at H
    have c4b0 : decide (12 < (l0.length : Int)) = true := decide_eq_true c4
    have c4b1 : decide (12 < l0.length) = true := decide_eq_true (by omega)
    clear c4
    obtain rfl := Option.some.inj H
    go_enter Try.func4, Try.ntmps4
    go_wp2_with (first | ((with_reducible refine gate_callee (f := 8) rfl ?_); refine goesL_ (some 12) rfl rfl Try.func8 (by kernel_rfl) rfl #[] rfl (by (try simp only [List.map_toArray, List.map_cons, List.map_nil]); first | done | rfl | (simp only [List.length_drop, List.length_take]; rfl)) ?_; (with_reducible refine (lamplighterlaw22_awake.calls  t155 _ A3.out).mono ?_); rintro e w5 ⟨rfl, hb⟩; refine ⟨_, rfl, ?_⟩; have n0_ := Aside0.mk (below_step (by repeat (first | (with_reducible first | exact HB.out | apply below_alloc | apply pw_below_drewN | apply below_drew1) | exact HB.out)) hb); clear HB; have HB := n0_; clear n0_; (try clear hb); (try clear hb2); (try clear hk); (try clear hi)))
    go_ret
    exact ⟨by first | rfl | (simp [errW_none, errW_some] <;> rfl) | (simp [*, errW_none, errW_some] <;> rfl), by repeat (first | (with_reducible first | exact HB.out | apply below_alloc | apply pw_below_drewN | apply below_drew1) | exact HB.out)⟩
  · rw [if_neg c4] at H
    have c4b0 : decide (12 < (l0.length : Int)) = false := decide_eq_false c4
    have c4b1 : decide (12 < l0.length) = false := decide_eq_false (by omega)
    clear c4
    have H' := Aside0.mk H
    clear H
    go_enter Try.func4, Try.ntmps4
    go_wp2_with (first | ((with_reducible refine gate_callee (f := 8) rfl ?_); refine goesL_ (some 12) rfl rfl Try.func8 (by kernel_rfl) rfl #[] rfl (by (try simp only [List.map_toArray, List.map_cons, List.map_nil]); first | done | rfl | (simp only [List.length_drop, List.length_take]; rfl)) ?_; (with_reducible refine (lamplighterlaw22_awake.calls  t155 _ A3.out).mono ?_); rintro e w6 ⟨rfl, hb⟩; refine ⟨_, rfl, ?_⟩; have n0_ := Aside0.mk (below_step (by repeat (first | (with_reducible first | exact HB.out | apply below_alloc | apply pw_below_drewN | apply below_drew1) | exact HB.out)) hb); clear HB; have HB := n0_; clear n0_; (try clear hb); (try clear hb2); (try clear hk); (try clear hi)))
    go_loopg [6] k (fun kq v6 w' => ∃ (x6_1 : Int), v6 = .int .i64 x6_1 ∧ Aside0 (lamplighterlaw22_LinDone.l0 kq l0 a1 t155 x6_1 = some r) ∧ Aside0 (kq ≤ k) ∧ Aside0 (Below w.heap.size w w'))
    case atStart => exact ⟨(0), (by first | rfl | (simp; done) | (simp [*]; done)), H', ⟨Nat.le_refl _⟩, ⟨by repeat (first | (with_reducible first | exact HB.out | apply below_alloc | apply pw_below_drewN | apply below_drew1) | exact HB.out)⟩⟩
    case round =>
      clear H'
      try clear p2
      try clear c4
      try clear c4b0
      try clear c4b1
      obtain ⟨x6_1, rfl, HA, HK1, HB⟩ := hrel
      cases gk with
      | zero => exact absurd HA.out (by simp [lamplighterlaw22_LinDone.l0])
      | succ k1 =>
        have H := HA.out
        clear HA
        simp only [lamplighterlaw22_LinDone.l0] at H
        by_cases c7 : x6_1 < (l0.length : Int)
        · rw [if_pos c7] at H
          have c7b0 : decide (x6_1 < (l0.length : Int)) = true := decide_eq_true c7
          clear c7
          by_cases c8 : 0 ≤ x6_1
          · rw [if_pos c8] at H
            have c8b0 : decide (0 ≤ x6_1) = true := decide_eq_true c8
            clear c8
            by_cases c9 : (((rd_T33 l0 x6_1).f1).size : Int) > 100
            · rw [if_pos c9] at H
              have c9b0 : decide (100 < (((rd_T33 l0 x6_1).f1).size : Int)) = true := decide_eq_true c9
              have c9b1 : decide (100 < ((rd_T33 l0 x6_1).f1).size) = true := decide_eq_true (by omega)
              clear c9
              obtain rfl := Option.some.inj H
              have p156 : 0 ≤ (x6_1 : Int) := of_decide_eq_true (by first | (with_reducible assumption) | assumption)
              have q156 : x6_1 < (l0.length : Int) := of_decide_eq_true (by first | (with_reducible assumption) | assumption)
              obtain ⟨ad156, e156, hx156_0, hx156_1, hx156_2, hx156_3⟩ := at_T33 HR0.out x6_1 p156 q156
              cases e156
              replace hx156_0 := (HB.out.cell (World.block_lt_of_cell? w _ hx156_0)).trans hx156_0
              replace hx156_1 := (HB.out.cell (World.block_lt_of_cell? w _ hx156_1)).trans hx156_1
              replace hx156_2 := (HB.out.cell (World.block_lt_of_cell? w _ hx156_2)).trans hx156_2
              replace hx156_3 := (HB.out.cell (World.block_lt_of_cell? w _ hx156_3)).trans hx156_3
              replace p156 := eq_true p156
              replace q156 := eq_true q156
              go_wp2
              go_ret
              exact ⟨by first | rfl | (simp [errW_none, errW_some] <;> rfl) | (simp [*, errW_none, errW_some] <;> rfl), by repeat (first | (with_reducible first | exact HB.out | apply below_alloc | apply pw_below_drewN | apply below_drew1) | exact HB.out)⟩
            · rw [if_neg c9] at H
              have c9b0 : decide (100 < (((rd_T33 l0 x6_1).f1).size : Int)) = false := decide_eq_false c9
              have c9b1 : decide (100 < ((rd_T33 l0 x6_1).f1).size) = false := decide_eq_false (by omega)
              clear c9
              have H' := Aside0.mk H
              clear H
              have p156 : 0 ≤ (x6_1 : Int) := of_decide_eq_true (by first | (with_reducible assumption) | assumption)
              have q156 : x6_1 < (l0.length : Int) := of_decide_eq_true (by first | (with_reducible assumption) | assumption)
              obtain ⟨ad156, e156, hx156_0, hx156_1, hx156_2, hx156_3⟩ := at_T33 HR0.out x6_1 p156 q156
              cases e156
              replace hx156_0 := (HB.out.cell (World.block_lt_of_cell? w _ hx156_0)).trans hx156_0
              replace hx156_1 := (HB.out.cell (World.block_lt_of_cell? w _ hx156_1)).trans hx156_1
              replace hx156_2 := (HB.out.cell (World.block_lt_of_cell? w _ hx156_2)).trans hx156_2
              replace hx156_3 := (HB.out.cell (World.block_lt_of_cell? w _ hx156_3)).trans hx156_3
              replace p156 := eq_true p156
              replace q156 := eq_true q156
              go_wp2
              go_roundg k1
              case measure => have := HK1.out; omega
              case rel => exact ⟨(wrap64 (x6_1 + 1)), (by first | rfl | (simp; done) | (simp [*]; done)), H', ⟨by have := HK1.out; omega⟩, ⟨by repeat (first | (with_reducible first | exact HB.out | apply below_alloc | apply pw_below_drewN | apply below_drew1) | exact HB.out)⟩⟩
          · rw [if_neg c8] at H
            exact absurd H (by simp)
        · rw [if_neg c7] at H
          have c7b0 : decide (x6_1 < (l0.length : Int)) = false := decide_eq_false c7
          clear c7
          replace H := Option.bind_eq_some_iff.mp H
          obtain ⟨⟨t157, t158, t159⟩, A100, H⟩ := H
          replace H : (lamplighterlaw22_LinDone.l1 k1 a1 t155 t157 t158 t159 ([] : List (S37)) 0) = some r := H
          have A10 := Aside0.mk A100
          clear A100
          have H' := Aside0.mk H
          clear H
          go_wp2_with (first | ((with_reducible refine gate_callee (f := 16) rfl ?_); refine goesL_ (some 33) rfl rfl Try.func16 (by kernel_rfl) rfl #[.slice A0 l0.length c0] rfl (by (try simp only [List.map_toArray, List.map_cons, List.map_nil]); first | done | rfl | (simp only [List.length_drop, List.length_take]; rfl)) ?_; (with_reducible refine (lamplighterlaw22_done.calls k1 _ _ l0 t157 t158 t159 _ ?side1 ?side2 A10.out).mono ?_); (case side1 => repeat (first | exact (Kd.C_below HR0.out HB.out) | (with_reducible refine Kd.C_alloc ?_ _) | (with_reducible refine Kd.C_drewN ?_ _) | (with_reducible refine Kd.C_drew ?_))); (case side2 => exact HC0.out); rintro e w11 ⟨v160, rfl, ho0, hb⟩; refine ⟨_, rfl, ?_⟩; have n0_ := Aside0.mk (Kd.R_lower ho0 (below_size (by repeat (first | (with_reducible first | exact HB.out | apply below_alloc | apply pw_below_drewN | apply below_drew1) | exact HB.out)))); have n1_ := Aside0.mk (below_step (by repeat (first | (with_reducible first | exact HB.out | apply below_alloc | apply pw_below_drewN | apply below_drew1) | exact HB.out)) hb); clear HB; have HO161 := n0_; have HB := n1_; clear n0_ n1_; (try clear hb); (try clear hb2); (try clear hk); (try clear hi); (try clear ho0)))
          go_loopg [10, 11] k1 (fun kq v10 v11 w' => ∃ (x10_2 : List (S37)) (x11_2 : Int), v11 = .int .i64 x11_2 ∧ Aside0 (lamplighterlaw22_LinDone.l1 kq a1 t155 t157 t158 t159 x10_2 x11_2 = some r) ∧ Aside0 (kq ≤ k1) ∧ Aside0 (Kd.R k37 37 w' w.heap.size (fun k_ => some k_ ≠ (v10 : Value).ownBlock) v160 t157) ∧ Aside0 (Kd.R k37 37 w' w.heap.size (fun k_ => some k_ ≠ (v160 : Value).ownBlock) v10 x10_2) ∧ Aside0 (Below w.heap.size w w'))
          case atStart => exact ⟨(([] : List (S37))), (0), (by first | rfl | (simp; done) | (simp [*]; done)), H', ⟨Nat.le_refl _⟩, ⟨by (with_reducible repeat (first | apply Kd.R_alloc | apply Kd.R_drewN | apply Kd.R_drew)); exact Kd.R_mono HO161.out (fun _ hk => (by simp [Value.ownBlock]))⟩, ⟨by first | exact Kd.R_nil _ _ _ _ _ | exact Kd.N_nil _ _ _ _ _ | exact Kd.V_nil _ _ _ _ _ | exact Kd.Q_nil _ _ _ _ _ | exact Kd.S_nil _ _ _ _ _⟩, ⟨by repeat (first | (with_reducible first | exact HB.out | apply below_alloc | apply pw_below_drewN | apply below_drew1) | exact HB.out)⟩⟩
          case round =>
            clear H'
            try clear c1
            try clear p1
            try clear q1
            try clear hx1
            try clear p2
            try clear c4
            try clear c4b0
            try clear c4b1
            try clear p6
            try clear c7
            try clear c7b0
            try clear c8
            try clear c8b0
            try clear c9
            try clear c9b0
            try clear c9b1
            try clear hx156_0
            try clear hx156_1
            try clear hx156_2
            try clear hx156_3
            try clear p156
            try clear p2
            try clear q156
            obtain ⟨x10_2, x11_2, rfl, HA, HK2, HO_7, HO_10, HB⟩ := hrel
            cases gk with
            | zero => exact absurd HA.out (by simp [lamplighterlaw22_LinDone.l1])
            | succ k2 =>
              have H := HA.out
              clear HA
              simp only [lamplighterlaw22_LinDone.l1] at H
              by_cases c12 : x11_2 < (t157.length : Int)
              · rw [if_pos c12] at H
                have c12b0 : decide (x11_2 < (t157.length : Int)) = true := decide_eq_true c12
                clear c12
                by_cases c13 : (t157.length : Int) = 0
                · rw [if_pos c13] at H
                  exact absurd H (by simp)
                · rw [if_neg c13] at H
                  have c13b0 : ((t157.length : Int) == 0) = false := beq_eq_false_iff_ne.mpr c13
                  have c13b1 : ((t157.length : Int) != 0) = true := bne_iff_ne.mpr c13
                  have c13b2 : ¬ (t157 = []) := fun h_ => c13 (by rw [h_]; rfl)
                  obtain ⟨ji14, hji14⟩ : ∃ j_ : Int, (Int.tmod (wrap64 (x11_2 + (wrap64 (a1)))) (t157.length : Int)) = j_ := ⟨_, rfl⟩
                  replace H : (if 0 ≤ (ji14) then (if (ji14) < (t157.length : Int) then (if x10_2.length < 2932031007402 then (lamplighterlaw22_LinDone.l1 k2 a1 t155 t157 t158 t159 (x10_2 ++ [(⟨(rd_T37 t157 (ji14)).f0, (rd_T37 t157 (ji14)).f1, (rd_T37 t157 (ji14)).f2, (rd_T37 t157 (ji14)).f3, (rd_T37 t157 (ji14)).f4, (rd_T37 t157 (ji14)).f5⟩ : S37)]) (wrap64 (x11_2 + 1))) else (none)) else (none)) else (none)) = some r := by first | (rw [hji14] at H; exact H) | (simp only [hji14] at H ⊢; exact H)
                  by_cases c15 : 0 ≤ (ji14)
                  · rw [if_pos c15] at H
                    have c15b0 : decide (0 ≤ (ji14)) = true := decide_eq_true c15
                    clear c15
                    by_cases c16 : (ji14) < (t157.length : Int)
                    · rw [if_pos c16] at H
                      have c16b0 : decide ((ji14) < (t157.length : Int)) = true := decide_eq_true c16
                      clear c16
                      by_cases c17 : x10_2.length < 2932031007402
                      · rw [if_pos c17] at H
                        have LMc17 := Aside0.mk c17
                        clear c17
                        obtain ⟨y163, hy163⟩ : ∃ y_ : List (S37), y_ = (x10_2 ++ [(⟨(rd_T37 t157 (ji14)).f0, (rd_T37 t157 (ji14)).f1, (rd_T37 t157 (ji14)).f2, (rd_T37 t157 (ji14)).f3, (rd_T37 t157 (ji14)).f4, (rd_T37 t157 (ji14)).f5⟩ : S37)]) := ⟨_, rfl⟩
                        replace H : (lamplighterlaw22_LinDone.l1 k2 a1 t155 t157 t158 t159 y163 (wrap64 (x11_2 + 1))) = some r := by first | (rw [hy163]; with_reducible exact H) | (have H2_ := (Option.bind_some _ _).symm.trans H; rw [hy163]; with_reducible exact H2_) | (have H2_ := (Option.bind_some _ _).symm.trans H; with_reducible exact H2_) | with_reducible exact H | (rw [hy163]; exact H) | exact H
                        have Ny163 := Aside0.mk hy163
                        clear hy163
                        have H' := Aside0.mk H
                        clear H
                        obtain ⟨Ao18, co18, eo18⟩ := Kd.R_slice HO_7.out
                        subst eo18
                        have p162 : 0 ≤ ((ji14) : Int) := of_decide_eq_true (by first | (with_reducible assumption) | assumption)
                        have q162 : (ji14) < (t157.length : Int) := of_decide_eq_true (by first | (with_reducible assumption) | assumption)
                        obtain ⟨ad162, e162, hx162_0, hx162_1, hx162_2, hx162_3, hx162_4, hx162_5⟩ := at_T37 (Kd.R_reads' HO_7.out).2.2 (ji14) p162 q162
                        cases e162
                        replace p162 := eq_true p162
                        replace q162 := eq_true q162
                        go_wp2_with (first | ((with_reducible refine gate_builtin (b := .append) (xs := #[.tmp 43, .tmp 54]) rfl ?_); at_builtin; refine Kd.R_append k37 (w0 := w) w.heap.size rfl (.tmp 43) (.tmp 54) 22 37 (.agg #[(.int .i64 0), (.int .i64 0), (.int .i64 0), (.string ⟨#[]⟩), (.bool false), (.bool false)]) 48 rfl Try.underlying22 info37 rfl (by decide) (by omega) u10 x10_2 (⟨(rd_T37 t157 (ji14)).f0, (rd_T37 t157 (ji14)).f1, (rd_T37 t157 (ji14)).f2, (rd_T37 t157 (ji14)).f3, (rd_T37 t157 (ji14)).f4, (rd_T37 t157 (ji14)).f5⟩ : S37) [.int .i64 ((rd_T37 t157 (ji14)).f0), .int .i64 ((rd_T37 t157 (ji14)).f1), .int .i64 ((rd_T37 t157 (ji14)).f2), .string ((rd_T37 t157 (ji14)).f3), .bool ((rd_T37 t157 (ji14)).f4), .bool ((rd_T37 t157 (ji14)).f5)] (fun k_ => some k_ ≠ (.slice (some ad162) t157.length co18 : Value).ownBlock) (fun _ => False) rfl rfl ?aP (fun _ hk => hk.elim) ?aF ?aO ?aB ?aS ?aL ?_; (case aP => exact k37_mkM _ _ _ (⟨(rd_T37 t157 (ji14)).f0, (rd_T37 t157 (ji14)).f1, (rd_T37 t157 (ji14)).f2, (rd_T37 t157 (ji14)).f3, (rd_T37 t157 (ji14)).f4, (rd_T37 t157 (ji14)).f5⟩ : S37)); (case aB => exact (by repeat (first | (with_reducible first | exact HB.out | apply below_alloc | apply pw_below_drewN | apply below_drew1) | exact HB.out))); (case aF => exact (fun k_ hk => Kd.fresh' (Kd.R_lt (by (with_reducible repeat (first | apply Kd.R_alloc | apply Kd.R_drewN | apply Kd.R_drew)); exact HO_7.out)) k_ hk)); (case aO => exact (by (with_reducible repeat (first | apply Kd.R_alloc | apply Kd.R_drewN | apply Kd.R_drew)); exact HO_10.out)); (case aS => exact (below_size (by repeat (first | (with_reducible first | exact HB.out | apply below_alloc | apply pw_below_drewN | apply below_drew1) | exact HB.out)))); (case aL => have := LMc17.out; omega); intro v164 w19 ho hb hg hat; rw [← Ny163.out] at ho; have n0_ := Aside0.mk (Kd.R_after (ok := (fun _ => True)) (by (with_reducible repeat (first | apply Kd.R_alloc | apply Kd.R_drewN | apply Kd.R_drew)); exact Kd.R_mono HO_7.out (fun _ hk => ⟨trivial, hk⟩)) hg hat); have n1_ := Aside0.mk (hb); have n2_ := Aside0.mk (ho); clear HO_7; clear HB; clear HO_10; have HO_7 := n0_; have HB := n1_; have HO165 := n2_; clear n0_ n1_ n2_; clear ho hb hg hat))
                        go_roundg k2
                        case measure => have := HK1.out; have := HK2.out; omega
                        case rel => exact ⟨(y163), (wrap64 (x11_2 + 1)), (by first | rfl | (simp; done) | (simp [*]; done)), H', ⟨by have := HK1.out; have := HK2.out; omega⟩, ⟨by (with_reducible repeat (first | apply Kd.R_alloc | apply Kd.R_drewN | apply Kd.R_drew)); exact Kd.R_mono HO_7.out (fun _ hk => hk.2)⟩, ⟨by (with_reducible repeat (first | apply Kd.R_alloc | apply Kd.R_drewN | apply Kd.R_drew)); exact HO165.out⟩, ⟨by repeat (first | (with_reducible first | exact HB.out | apply below_alloc | apply pw_below_drewN | apply below_drew1) | exact HB.out)⟩⟩
                      · rw [if_neg c17] at H
                        exact absurd H (by simp)
                    · rw [if_neg c16] at H
                      exact absurd H (by simp)
                  · rw [if_neg c15] at H
                    exact absurd H (by simp)
              · rw [if_neg c12] at H
                have c12b0 : decide (x11_2 < (t157.length : Int)) = false := decide_eq_false c12
                clear c12
                by_cases c20 : t155 = true
                · subst c20
                  have H1 : ((lin_Check.f (⟨#[]⟩ : ByteArray) false t157 t158 t159).bind fun t166 => (if t166 = true then ((lin_Check.f (⟨#[]⟩ : ByteArray) false x10_2 t158 t159).bind fun t167 => (some t167)) else (some false))) = some r := by rw [if_pos rfl] at H; exact H
                  clear H
                  have H := H1
                  clear H1
                  replace H := Option.bind_eq_some_iff.mp H
                  obtain ⟨t166, A210, H⟩ := H
                  replace H : (if t166 = true then ((lin_Check.f (⟨#[]⟩ : ByteArray) false x10_2 t158 t159).bind fun t167 => (some t167)) else (some false)) = some r := H
                  have A21 := Aside0.mk A210
                  clear A210
                  by_cases c22 : t166 = true
                  · subst c22
                    have H1 : ((lin_Check.f (⟨#[]⟩ : ByteArray) false x10_2 t158 t159).bind fun t167 => (some t167)) = some r := by rw [if_pos rfl] at H; exact H
                    clear H
                    have H := H1
                    clear H1
                    replace H := Option.bind_eq_some_iff.mp H
                    obtain ⟨t167, A230, H⟩ := H
                    replace H : (some t167) = some r := H
                    have A23 := Aside0.mk A230
                    clear A230
                    obtain rfl := Option.some.inj H
                    obtain ⟨Ao24, co24, eo24⟩ := Kd.R_slice HO_7.out
                    subst eo24
                    go_wp2_with (first | (go_at_call 11; (with_reducible refine (lin_Check.calls (⟨#[]⟩ : ByteArray) false _ _ t157 t158 t159 true _ ?side1 ?side2 A21.out).mono ?_); (case side1 => repeat (first | exact (Kd.R_reads' HO_7.out).2.2 | (with_reducible refine Kd.C_alloc ?_ _) | (with_reducible refine Kd.C_drewN ?_ _) | (with_reducible refine Kd.C_drew ?_))); (case side2 => exact (Kd.R_reads' HO_7.out).2.1); rintro e w25 ⟨rfl, hb⟩; have n0_ := Aside0.mk (Kd.R_below (by (with_reducible repeat (first | apply Kd.R_alloc | apply Kd.R_drewN | apply Kd.R_drew)); exact HO_7.out) hb); have n1_ := Aside0.mk (Kd.R_below (by (with_reducible repeat (first | apply Kd.R_alloc | apply Kd.R_drewN | apply Kd.R_drew)); exact HO_10.out) hb); have n2_ := Aside0.mk (below_step (by repeat (first | (with_reducible first | exact HB.out | apply below_alloc | apply pw_below_drewN | apply below_drew1) | exact HB.out)) hb); clear HO_7; clear HO_10; clear HB; have HO_7 := n0_; have HO_10 := n1_; have HB := n2_; clear n0_ n1_ n2_; (try clear hb); (try clear hb2); (try clear hk); (try clear hi); obtain ⟨Ao26, co26, eo26⟩ := Kd.R_slice HO_10.out; subst eo26) | (go_at_call 11; (with_reducible refine (lin_Check.calls (⟨#[]⟩ : ByteArray) false _ _ x10_2 t158 t159 t167 _ ?side1 ?side2 A23.out).mono ?_); (case side1 => repeat (first | exact (Kd.R_reads' HO_10.out).2.2 | (with_reducible refine Kd.C_alloc ?_ _) | (with_reducible refine Kd.C_drewN ?_ _) | (with_reducible refine Kd.C_drew ?_))); (case side2 => exact (Kd.R_reads' HO_10.out).2.1); rintro e w27 ⟨rfl, hb⟩; have n0_ := Aside0.mk (Kd.R_below (by (with_reducible repeat (first | apply Kd.R_alloc | apply Kd.R_drewN | apply Kd.R_drew)); exact HO_7.out) hb); have n1_ := Aside0.mk (Kd.R_below (by (with_reducible repeat (first | apply Kd.R_alloc | apply Kd.R_drewN | apply Kd.R_drew)); exact HO_10.out) hb); have n2_ := Aside0.mk (below_step (by repeat (first | (with_reducible first | exact HB.out | apply below_alloc | apply pw_below_drewN | apply below_drew1) | exact HB.out)) hb); clear HO_7; clear HO_10; clear HB; have HO_7 := n0_; have HO_10 := n1_; have HB := n2_; clear n0_ n1_ n2_; (try clear hb); (try clear hb2); (try clear hk); (try clear hi)))
                    go_ret
                    exact ⟨by first | rfl | (simp [errW_none, errW_some] <;> rfl) | (simp [*, errW_none, errW_some] <;> rfl), by repeat (first | (with_reducible first | exact HB.out | apply below_alloc | apply pw_below_drewN | apply below_drew1) | exact HB.out)⟩
                  · replace c22 := Bool.eq_false_iff.mpr c22
                    subst c22
                    have H1 : (some false) = some r := by rw [if_neg (show ¬ (false = true) by decide)] at H; exact H
                    clear H
                    have H := H1
                    clear H1
                    obtain rfl := Option.some.inj H
                    obtain ⟨Ao28, co28, eo28⟩ := Kd.R_slice HO_7.out
                    subst eo28
                    go_wp2_with (first | (go_at_call 11; (with_reducible refine (lin_Check.calls (⟨#[]⟩ : ByteArray) false _ _ t157 t158 t159 false _ ?side1 ?side2 A21.out).mono ?_); (case side1 => repeat (first | exact (Kd.R_reads' HO_7.out).2.2 | (with_reducible refine Kd.C_alloc ?_ _) | (with_reducible refine Kd.C_drewN ?_ _) | (with_reducible refine Kd.C_drew ?_))); (case side2 => exact (Kd.R_reads' HO_7.out).2.1); rintro e w29 ⟨rfl, hb⟩; have n0_ := Aside0.mk (Kd.R_below (by (with_reducible repeat (first | apply Kd.R_alloc | apply Kd.R_drewN | apply Kd.R_drew)); exact HO_7.out) hb); have n1_ := Aside0.mk (Kd.R_below (by (with_reducible repeat (first | apply Kd.R_alloc | apply Kd.R_drewN | apply Kd.R_drew)); exact HO_10.out) hb); have n2_ := Aside0.mk (below_step (by repeat (first | (with_reducible first | exact HB.out | apply below_alloc | apply pw_below_drewN | apply below_drew1) | exact HB.out)) hb); clear HO_7; clear HO_10; clear HB; have HO_7 := n0_; have HO_10 := n1_; have HB := n2_; clear n0_ n1_ n2_; (try clear hb); (try clear hb2); (try clear hk); (try clear hi)))
                    go_ret
                    exact ⟨by first | rfl | (simp [errW_none, errW_some] <;> rfl) | (simp [*, errW_none, errW_some] <;> rfl), by repeat (first | (with_reducible first | exact HB.out | apply below_alloc | apply pw_below_drewN | apply below_drew1) | exact HB.out)⟩
                · replace c20 := Bool.eq_false_iff.mpr c20
                  subst c20
                  have H1 : (some false) = some r := by rw [if_neg (show ¬ (false = true) by decide)] at H; exact H
                  clear H
                  have H := H1
                  clear H1
                  obtain rfl := Option.some.inj H
                  obtain ⟨Ao30, co30, eo30⟩ := Kd.R_slice HO_7.out
                  subst eo30
                  go_wp2
                  go_ret
                  exact ⟨by first | rfl | (simp [errW_none, errW_some] <;> rfl) | (simp [*, errW_none, errW_some] <;> rfl), by repeat (first | (with_reducible first | exact HB.out | apply below_alloc | apply pw_below_drewN | apply below_drew1) | exact HB.out)⟩

end
end Go.Proofs.Ytdblecmelmeibaa.PH
