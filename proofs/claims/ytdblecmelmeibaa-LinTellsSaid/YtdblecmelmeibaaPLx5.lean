/- Written by this session's own program (hprint.py) with the help of the kit's print. Lean checks it. -/
import Derived.Test.YtdblecmelmeibaaPLx0
import Derived.Test.YtdblecmelmeibaaPLx1
import Derived.Test.YtdblecmelmeibaaPLx2
import Derived.Test.YtdblecmelmeibaaPLx4
import Derived.Test.YtdblecmelmeibaaGivenL
namespace Go.Proofs.Ytdblecmelmeibaa.PL
open Go.RowKit Go.Proofs.YtdblecmelmeibaaW.PrintWords Go.Proofs.YtdblecmelmeibaaW.PrintLast Go.Proofs.YtdblecmelmeibaaW.PrintMore
attribute [local go_sem] max2_int min2_int max_two min_two max_three min_three max_four min_four   -- for this text's walks alone
set_option linter.unusedVariables false
set_option linter.unusedSimpArgs false
noncomputable section

attribute [local go_sem high] eqA37
/-! ### lamplighterref22_Check: function 12 -/
def lamplighterref22_Check.f (k : Nat) (a0 : ByteArray) (a1 : Bool) (l2 : List (S37)) (a3 : ByteArray) (a4 : Bool) : Option (Bool) := if (l2.length : Int) ≤ 20 then ((lamplighterref22_order.f k a0 a1 l2 a3 a4).bind fun t126 => (some t126)) else (some false)
theorem lamplighterref22_Check.mono : ∀ a0 a1 a2 a3 a4 k, LeO (lamplighterref22_Check.f k a0 a1 a2 a3 a4) (lamplighterref22_Check.f (k + 1) a0 a1 a2 a3 a4) := by
  intro a0 a1 a2 a3 a4 k
  unfold lamplighterref22_Check.f
  repeat' first
      | (with_reducible exact lamplighterref22_order.mono _ _ _ _ _ _)
      | (with_reducible exact LeO.refl _)
      | (with_reducible exact LeO.none _)
      | (with_reducible refine LeO.ite ?_ ?_)
      | (with_reducible refine LeO.bind ?_ (fun _ => ?_))
      | exact lamplighterref22_order.mono _ _ _ _ _ _
      | exact LeO.none _
      | refine LeO.ite ?_ ?_
      | refine LeO.bind ?_ (fun _ => ?_)
set_option maxHeartbeats 8000000 in
set_option maxRecDepth 100000 in
theorem lamplighterref22_Check.calls (k : Nat) (a0 : ByteArray) (a1 : Bool) (A2 : Option Addr) (c2 : Nat) (l2 : List (S37)) (a3 : ByteArray) (a4 : Bool) (r : Bool) (w : World) (hr2 : Kd.C k37 w A2 l2.length l2) (hc2 : l2.length ≤ c2) (h : lamplighterref22_Check.f k a0 a1 l2 a3 a4 = some r) :
    Calls Try.prog 12 #[.string a0, .bool a1, .slice A2 l2.length c2, .string a3, .bool a4] w fun e w' => e = .returned (.bool r) ∧ Below w.heap.size w w' := by
  have HR2 := Aside0.mk hr2
  have HC2 := Aside0.mk hc2
  clear hr2 hc2
  have HB := Aside0.mk (Below.refl w.heap.size w)
  have H : (if (l2.length : Int) ≤ 20 then ((lamplighterref22_order.f k a0 a1 l2 a3 a4).bind fun t126 => (some t126)) else (some false)) = some r := h
  clear h
  by_cases c6 : (l2.length : Int) ≤ 20
  · rw [if_pos c6] at H
    have c6b0 : decide ((l2.length : Int) ≤ 20) = true := decide_eq_true c6
    have c6b1 : decide (l2.length ≤ 20) = true := decide_eq_true (by omega)
    clear c6
    replace H := Option.bind_eq_some_iff.mp H
    obtain ⟨t126, A70, H⟩ := H
    replace H : (some t126) = some r := H
    have A7 := Aside0.mk A70
    clear A70
    obtain rfl := Option.some.inj H
    go_enter Try.func12, Try.ntmps12
    go_wp2_with (first | (go_at_call 20; (with_reducible refine (lamplighterref22_order.calls k a0 a1 _ _ l2 a3 a4 t126 _ ?side1 ?side2 A7.out).mono ?_); (case side1 => repeat (first | exact HR2.out | (with_reducible refine Kd.C_alloc ?_ _) | (with_reducible refine Kd.C_drewN ?_ _) | (with_reducible refine Kd.C_drew ?_))); (case side2 => exact HC2.out); rintro e w8 ⟨rfl, hb⟩; have n0_ := Aside0.mk (below_step (by repeat (first | (with_reducible first | exact HB.out | apply below_alloc | apply pw_below_drewN | apply below_drew1) | exact HB.out)) hb); clear HB; have HB := n0_; clear n0_; (try clear hb); (try clear hb2); (try clear hk); (try clear hi)))
    go_ret
    exact ⟨by first | rfl | (simp [errW_none, errW_some] <;> rfl) | (simp [*, errW_none, errW_some] <;> rfl), by repeat (first | (with_reducible first | exact HB.out | apply below_alloc | apply pw_below_drewN | apply below_drew1) | exact HB.out)⟩
  · rw [if_neg c6] at H
    have c6b0 : decide ((l2.length : Int) ≤ 20) = false := decide_eq_false c6
    have c6b1 : decide (l2.length ≤ 20) = false := decide_eq_false (by omega)
    clear c6
    obtain rfl := Option.some.inj H
    go_enter Try.func12, Try.ntmps12
    go_wp2
    go_ret
    exact ⟨by first | rfl | (simp [errW_none, errW_some] <;> rfl) | (simp [*, errW_none, errW_some] <;> rfl), by repeat (first | (with_reducible first | exact HB.out | apply below_alloc | apply pw_below_drewN | apply below_drew1) | exact HB.out)⟩

/-! ### lamplighterref22_Same: function 13 -/
def lamplighterref22_Same.l0 : Nat → List (S37) → List (S37) → Int → Option (Bool)
  | 0, _, _, _ => none
  | k + 1, x0, x1, x5 => if x5 < (x0.length : Int) then (if 0 ≤ x5 then (if x5 < (x1.length : Int) then (if (!(((rd_T37 x0 x5).f0) == ((rd_T37 x1 x5).f0)) || (!(((rd_T37 x0 x5).f1) == ((rd_T37 x1 x5).f1)) || (!(((rd_T37 x0 x5).f2) == ((rd_T37 x1 x5).f2)) || (!((((rd_T37 x0 x5).f3).toList) == (((rd_T37 x1 x5).f3).toList)) || (!(((rd_T37 x0 x5).f4) == ((rd_T37 x1 x5).f4)) || (!(((rd_T37 x0 x5).f5) == ((rd_T37 x1 x5).f5)))))))) = true then (some false) else (lamplighterref22_Same.l0 k x0 x1 (wrap64 (x5 + 1)))) else (none)) else (none)) else (some true)
def lamplighterref22_Same.f (k : Nat) (l0 : List (S37)) (l1 : List (S37)) : Option (Bool) := if (l0.length : Int) = (l1.length : Int) then (lamplighterref22_Same.l0 k l0 l1 0) else (some false)
theorem lamplighterref22_Same.mono_l : ∀ k, (∀ y0 y1 y2, LeO (lamplighterref22_Same.l0 k y0 y1 y2) (lamplighterref22_Same.l0 (k + 1) y0 y1 y2))
  | 0 => fun _ _ _ r h => by simp [lamplighterref22_Same.l0] at h
  | k + 1 => by
    have ih0 := lamplighterref22_Same.mono_l k
    · intro y0 y1 y2
      unfold lamplighterref22_Same.l0
      repeat' first
      | (with_reducible exact ih0 _ _ _)
      | (with_reducible exact LeO.refl _)
      | (with_reducible exact LeO.none _)
      | (with_reducible refine LeO.ite ?_ ?_)
      | (with_reducible refine LeO.bind ?_ (fun _ => ?_))
      | exact ih0 _ _ _
      | exact LeO.none _
      | refine LeO.ite ?_ ?_
      | refine LeO.bind ?_ (fun _ => ?_)
theorem lamplighterref22_Same.mono : ∀ a0 a1 k, LeO (lamplighterref22_Same.f k a0 a1) (lamplighterref22_Same.f (k + 1) a0 a1) := by
  intro a0 a1 k
  have ih0 := lamplighterref22_Same.mono_l k
  unfold lamplighterref22_Same.f
  repeat' first
      | (with_reducible exact ih0 _ _ _)
      | (with_reducible exact LeO.refl _)
      | (with_reducible exact LeO.none _)
      | (with_reducible refine LeO.ite ?_ ?_)
      | (with_reducible refine LeO.bind ?_ (fun _ => ?_))
      | exact ih0 _ _ _
      | exact LeO.none _
      | refine LeO.ite ?_ ?_
      | refine LeO.bind ?_ (fun _ => ?_)
set_option maxHeartbeats 8000000 in
set_option maxRecDepth 100000 in
theorem lamplighterref22_Same.calls (k : Nat) (A0 : Option Addr) (c0 : Nat) (l0 : List (S37)) (A1 : Option Addr) (c1 : Nat) (l1 : List (S37)) (r : Bool) (w : World) (hr0 : Kd.C k37 w A0 l0.length l0) (hc0 : l0.length ≤ c0) (hr1 : Kd.C k37 w A1 l1.length l1) (hc1 : l1.length ≤ c1) (h : lamplighterref22_Same.f k l0 l1 = some r) :
    Calls Try.prog 13 #[.slice A0 l0.length c0, .slice A1 l1.length c1] w fun e w' => e = .returned (.bool r) ∧ Drawn0 w w' := by
  have hu37 := Try.underlying37
  have HR0 := Aside0.mk hr0
  have HC0 := Aside0.mk hc0
  clear hr0 hc0
  have HR1 := Aside0.mk hr1
  have HC1 := Aside0.mk hc1
  clear hr1 hc1
  have H : (if (l0.length : Int) = (l1.length : Int) then (lamplighterref22_Same.l0 k l0 l1 0) else (some false)) = some r := h
  clear h
  by_cases c3 : (l0.length : Int) = (l1.length : Int)
  · rw [if_pos c3] at H
    have c3b0 : ((l0.length : Int) == (l1.length : Int)) = true := beq_iff_eq.mpr c3
    have c3b1 : ((l0.length : Int) != (l1.length : Int)) = false := bne_eq_false_iff_eq.mpr c3
    have c3b2 : (l0.length == l1.length) = true := by first | simpa using c3 | (simp at c3 ⊢; omega)
    clear c3
    have H' := Aside0.mk H
    clear H
    go_enter Try.func13, Try.ntmps13
    go_wp2
    repeat (go_quiet (fail); try go_wp2)
    go_loopg [5] k (fun kq v5 w' => ∃ (x5_1 : Int), v5 = .int .i64 x5_1 ∧ Aside0 (lamplighterref22_Same.l0 kq l0 l1 x5_1 = some r) ∧ Aside0 (kq ≤ k) ∧ Drawn0 w w')
    case atStart => exact ⟨(0), (by first | rfl | (simp; done) | (simp [*]; done)), H', ⟨Nat.le_refl _⟩, by repeat (first | exact Drawn0.refl _ | apply Drawn0.step)⟩
    case round =>
      clear H'
      try clear c1
      try clear p2
      try clear c3
      try clear c3b0
      try clear c3b1
      try clear c3b2
      obtain ⟨x5_1, rfl, HA, HK1, ⟨m1, rfl⟩⟩ := hrel
      cases gk with
      | zero => exact absurd HA.out (by simp [lamplighterref22_Same.l0])
      | succ k1 =>
        have H := HA.out
        clear HA
        simp only [lamplighterref22_Same.l0] at H
        by_cases c4 : x5_1 < (l0.length : Int)
        · rw [if_pos c4] at H
          have c4b0 : decide (x5_1 < (l0.length : Int)) = true := decide_eq_true c4
          clear c4
          by_cases c5 : 0 ≤ x5_1
          · rw [if_pos c5] at H
            have c5b0 : decide (0 ≤ x5_1) = true := decide_eq_true c5
            clear c5
            by_cases c6 : x5_1 < (l1.length : Int)
            · rw [if_pos c6] at H
              have c6b0 : decide (x5_1 < (l1.length : Int)) = true := decide_eq_true c6
              clear c6
              by_cases c7 : (!(((rd_T37 l0 x5_1).f0) == ((rd_T37 l1 x5_1).f0)) || (!(((rd_T37 l0 x5_1).f1) == ((rd_T37 l1 x5_1).f1)) || (!(((rd_T37 l0 x5_1).f2) == ((rd_T37 l1 x5_1).f2)) || (!((((rd_T37 l0 x5_1).f3).toList) == (((rd_T37 l1 x5_1).f3).toList)) || (!(((rd_T37 l0 x5_1).f4) == ((rd_T37 l1 x5_1).f4)) || (!(((rd_T37 l0 x5_1).f5) == ((rd_T37 l1 x5_1).f5)))))))) = true
              · rw [if_pos c7] at H
                have c7b0 : (!(((rd_T37 l0 x5_1).f0) == ((rd_T37 l1 x5_1).f0)) || (!(((rd_T37 l0 x5_1).f1) == ((rd_T37 l1 x5_1).f1)) || (!(((rd_T37 l0 x5_1).f2) == ((rd_T37 l1 x5_1).f2)) || (!((((rd_T37 l0 x5_1).f3).toList) == (((rd_T37 l1 x5_1).f3).toList)) || (!(((rd_T37 l0 x5_1).f4) == ((rd_T37 l1 x5_1).f4)) || (!(((rd_T37 l0 x5_1).f5) == ((rd_T37 l1 x5_1).f5)))))))) = true := c7
                clear c7
                obtain rfl := Option.some.inj H
                have p127 : 0 ≤ (x5_1 : Int) := of_decide_eq_true (by first | (with_reducible assumption) | assumption)
                have q127 : x5_1 < (l0.length : Int) := of_decide_eq_true (by first | (with_reducible assumption) | assumption)
                obtain ⟨ad127, e127, hx127_0, hx127_1, hx127_2, hx127_3, hx127_4, hx127_5⟩ := at_T37 HR0.out x5_1 p127 q127
                cases e127
                replace p127 := eq_true p127
                replace q127 := eq_true q127
                have p128 : 0 ≤ (x5_1 : Int) := of_decide_eq_true (by first | (with_reducible assumption) | assumption)
                have q128 : x5_1 < (l1.length : Int) := of_decide_eq_true (by first | (with_reducible assumption) | assumption)
                obtain ⟨ad128, e128, hx128_0, hx128_1, hx128_2, hx128_3, hx128_4, hx128_5⟩ := at_T37 HR1.out x5_1 p128 q128
                cases e128
                replace p128 := eq_true p128
                replace q128 := eq_true q128
                go_wp2
                repeat (go_quiet (fail); try go_wp2)
                go_ret
                exact ⟨by first | rfl | (simp; done) | (simp [*]; done), by repeat (first | exact Drawn0.refl _ | apply Drawn0.step)⟩
              · rw [if_neg c7] at H
                have c7b0 : (!(((rd_T37 l0 x5_1).f0) == ((rd_T37 l1 x5_1).f0)) || (!(((rd_T37 l0 x5_1).f1) == ((rd_T37 l1 x5_1).f1)) || (!(((rd_T37 l0 x5_1).f2) == ((rd_T37 l1 x5_1).f2)) || (!((((rd_T37 l0 x5_1).f3).toList) == (((rd_T37 l1 x5_1).f3).toList)) || (!(((rd_T37 l0 x5_1).f4) == ((rd_T37 l1 x5_1).f4)) || (!(((rd_T37 l0 x5_1).f5) == ((rd_T37 l1 x5_1).f5)))))))) = false := by simpa using c7
                clear c7
                have H' := Aside0.mk H
                clear H
                have p127 : 0 ≤ (x5_1 : Int) := of_decide_eq_true (by first | (with_reducible assumption) | assumption)
                have q127 : x5_1 < (l0.length : Int) := of_decide_eq_true (by first | (with_reducible assumption) | assumption)
                obtain ⟨ad127, e127, hx127_0, hx127_1, hx127_2, hx127_3, hx127_4, hx127_5⟩ := at_T37 HR0.out x5_1 p127 q127
                cases e127
                replace p127 := eq_true p127
                replace q127 := eq_true q127
                have p128 : 0 ≤ (x5_1 : Int) := of_decide_eq_true (by first | (with_reducible assumption) | assumption)
                have q128 : x5_1 < (l1.length : Int) := of_decide_eq_true (by first | (with_reducible assumption) | assumption)
                obtain ⟨ad128, e128, hx128_0, hx128_1, hx128_2, hx128_3, hx128_4, hx128_5⟩ := at_T37 HR1.out x5_1 p128 q128
                cases e128
                replace p128 := eq_true p128
                replace q128 := eq_true q128
                go_wp2
                repeat (go_quiet (fail); try go_wp2)
                go_roundg k1
                case measure => have := HK1.out; omega
                case rel => exact ⟨(wrap64 (x5_1 + 1)), (by first | rfl | (simp; done) | (simp [*]; done)), H', ⟨by have := HK1.out; omega⟩, by repeat (first | exact Drawn0.refl _ | apply Drawn0.step)⟩
            · rw [if_neg c6] at H
              exact absurd H (by simp)
          · rw [if_neg c5] at H
            exact absurd H (by simp)
        · rw [if_neg c4] at H
          have c4b0 : decide (x5_1 < (l0.length : Int)) = false := decide_eq_false c4
          clear c4
          obtain rfl := Option.some.inj H
          go_wp2
          repeat (go_quiet (fail); try go_wp2)
          go_ret
          exact ⟨by first | rfl | (simp; done) | (simp [*]; done), by repeat (first | exact Drawn0.refl _ | apply Drawn0.step)⟩
  · rw [if_neg c3] at H
    have c3b0 : ((l0.length : Int) == (l1.length : Int)) = false := beq_eq_false_iff_ne.mpr c3
    have c3b1 : ((l0.length : Int) != (l1.length : Int)) = true := bne_iff_ne.mpr c3
    have c3b2 : (l0.length == l1.length) = false := by first | simpa using c3 | (simp at c3 ⊢; omega)
    obtain rfl := Option.some.inj H
    go_enter Try.func13, Try.ntmps13
    go_wp2
    repeat (go_quiet (fail); try go_wp2)
    go_ret
    exact ⟨by first | rfl | (simp; done) | (simp [*]; done), by repeat (first | exact Drawn0.refl _ | apply Drawn0.step)⟩

/-! ### lamplighterlaw22_LinTells: function 3 -/
def lamplighterlaw22_LinTells.j0 : Nat → ByteArray → Bool → List (S37) → ByteArray → Bool → List (S48) → ByteArray → Bool → Bool → Option (Bool)
  | 0, _, _, _, _, _, _, _, _, _ => none
  | k + 1, x0, x1, x2, x3, x4, x5, x6, x15, x39 => if x39 = true then (some x15) else (if x15 = true then ((lin_Check.f x0 x1 x2 x3 x4).bind fun t132 => ((lamplighterref22_Check.f k x0 x1 x2 x3 x4).bind fun t133 => (if (t132 == t133) = true then ((lin_Acts.f x5 x6).bind fun t134 => ((lamplighterref22_Acts.f x5 x6).bind fun t137 => ((lamplighterref22_Same.f k t134 t137).bind fun t140 => (some t140)))) else (none)))) else (none))
def lamplighterlaw22_LinTells.f (k : Nat) (a0 : ByteArray) (a1 : Bool) (l2 : List (S37)) (a3 : ByteArray) (a4 : Bool) (l5 : List (S48)) (a6 : ByteArray) : Option (Bool) := (lamplighterlaw22_awake.f).bind fun t129 => (if (a0.size : Int) > 100 then (lamplighterlaw22_LinTells.j0 k a0 a1 l2 a3 a4 l5 a6 t129 true) else (if (a3.size : Int) > 100 then (lamplighterlaw22_LinTells.j0 k a0 a1 l2 a3 a4 l5 a6 t129 true) else ((lamplighterref22_Short.f k l2 6).bind fun t130 => (if t130 = true then ((lamplighterref22_Kinds.f k l5 200).bind fun t131 => (if t131 = true then (lamplighterlaw22_LinTells.j0 k a0 a1 l2 a3 a4 l5 a6 t129 (decide ((a6.size : Int) > 100))) else (lamplighterlaw22_LinTells.j0 k a0 a1 l2 a3 a4 l5 a6 t129 true))) else (lamplighterlaw22_LinTells.j0 k a0 a1 l2 a3 a4 l5 a6 t129 true)))))
theorem lamplighterlaw22_LinTells.mono_l : ∀ k, (∀ y0 y1 y2 y3 y4 y5 y6 y7 y8, LeO (lamplighterlaw22_LinTells.j0 k y0 y1 y2 y3 y4 y5 y6 y7 y8) (lamplighterlaw22_LinTells.j0 (k + 1) y0 y1 y2 y3 y4 y5 y6 y7 y8))
  | 0 => fun _ _ _ _ _ _ _ _ _ r h => by simp [lamplighterlaw22_LinTells.j0] at h
  | k + 1 => by
    have ih0 := lamplighterlaw22_LinTells.mono_l k
    · intro y0 y1 y2 y3 y4 y5 y6 y7 y8
      unfold lamplighterlaw22_LinTells.j0
      repeat' first
      | (with_reducible exact ih0 _ _ _ _ _ _ _ _ _)
      | (with_reducible exact lamplighterref22_Check.mono _ _ _ _ _ _)
      | (with_reducible exact lamplighterref22_Kinds.mono _ _ _)
      | (with_reducible exact lamplighterref22_Same.mono _ _ _)
      | (with_reducible exact lamplighterref22_Short.mono _ _ _)
      | (with_reducible exact LeO.refl _)
      | (with_reducible exact LeO.none _)
      | (with_reducible refine LeO.ite ?_ ?_)
      | (with_reducible refine LeO.bind ?_ (fun _ => ?_))
      | exact ih0 _ _ _ _ _ _ _ _ _
      | exact lamplighterref22_Check.mono _ _ _ _ _ _
      | exact lamplighterref22_Kinds.mono _ _ _
      | exact lamplighterref22_Same.mono _ _ _
      | exact lamplighterref22_Short.mono _ _ _
      | exact LeO.none _
      | refine LeO.ite ?_ ?_
      | refine LeO.bind ?_ (fun _ => ?_)
theorem lamplighterlaw22_LinTells.mono : ∀ a0 a1 a2 a3 a4 a5 a6 k, LeO (lamplighterlaw22_LinTells.f k a0 a1 a2 a3 a4 a5 a6) (lamplighterlaw22_LinTells.f (k + 1) a0 a1 a2 a3 a4 a5 a6) := by
  intro a0 a1 a2 a3 a4 a5 a6 k
  have ih0 := lamplighterlaw22_LinTells.mono_l k
  unfold lamplighterlaw22_LinTells.f
  repeat' first
      | (with_reducible exact ih0 _ _ _ _ _ _ _ _ _)
      | (with_reducible exact lamplighterref22_Check.mono _ _ _ _ _ _)
      | (with_reducible exact lamplighterref22_Kinds.mono _ _ _)
      | (with_reducible exact lamplighterref22_Same.mono _ _ _)
      | (with_reducible exact lamplighterref22_Short.mono _ _ _)
      | (with_reducible exact LeO.refl _)
      | (with_reducible exact LeO.none _)
      | (with_reducible refine LeO.ite ?_ ?_)
      | (with_reducible refine LeO.bind ?_ (fun _ => ?_))
      | exact ih0 _ _ _ _ _ _ _ _ _
      | exact lamplighterref22_Check.mono _ _ _ _ _ _
      | exact lamplighterref22_Kinds.mono _ _ _
      | exact lamplighterref22_Same.mono _ _ _
      | exact lamplighterref22_Short.mono _ _ _
      | exact LeO.none _
      | refine LeO.ite ?_ ?_
      | refine LeO.bind ?_ (fun _ => ?_)
set_option maxHeartbeats 8000000 in
set_option maxRecDepth 100000 in
theorem lamplighterlaw22_LinTells.calls (k : Nat) (a0 : ByteArray) (a1 : Bool) (A2 : Option Addr) (c2 : Nat) (l2 : List (S37)) (a3 : ByteArray) (a4 : Bool) (A5 : Option Addr) (c5 : Nat) (l5 : List (S48)) (a6 : ByteArray) (r : Bool) (w : World) (hr2 : Kd.C k37 w A2 l2.length l2) (hc2 : l2.length ≤ c2) (hr5 : Kd.C k48 w A5 l5.length l5) (hc5 : l5.length ≤ c5) (h : lamplighterlaw22_LinTells.f k a0 a1 l2 a3 a4 l5 a6 = some r) :
    Calls Try.prog 3 #[.string a0, .bool a1, .slice A2 l2.length c2, .string a3, .bool a4, .slice A5 l5.length c5, .string a6] w fun e w' => e = .returned (.bool r) ∧ Below w.heap.size w w' := by
  have HR2 := Aside0.mk hr2
  have HC2 := Aside0.mk hc2
  clear hr2 hc2
  have HR5 := Aside0.mk hr5
  have HC5 := Aside0.mk hc5
  clear hr5 hc5
  have HB := Aside0.mk (Below.refl w.heap.size w)
  have H : ((lamplighterlaw22_awake.f).bind fun t129 => (if (a0.size : Int) > 100 then (lamplighterlaw22_LinTells.j0 k a0 a1 l2 a3 a4 l5 a6 t129 true) else (if (a3.size : Int) > 100 then (lamplighterlaw22_LinTells.j0 k a0 a1 l2 a3 a4 l5 a6 t129 true) else ((lamplighterref22_Short.f k l2 6).bind fun t130 => (if t130 = true then ((lamplighterref22_Kinds.f k l5 200).bind fun t131 => (if t131 = true then (lamplighterlaw22_LinTells.j0 k a0 a1 l2 a3 a4 l5 a6 t129 (decide ((a6.size : Int) > 100))) else (lamplighterlaw22_LinTells.j0 k a0 a1 l2 a3 a4 l5 a6 t129 true))) else (lamplighterlaw22_LinTells.j0 k a0 a1 l2 a3 a4 l5 a6 t129 true)))))) = some r := h
  clear h
  replace H := Option.bind_eq_some_iff.mp H
  obtain ⟨t129, A80, H⟩ := H
  replace H : (if (a0.size : Int) > 100 then (lamplighterlaw22_LinTells.j0 k a0 a1 l2 a3 a4 l5 a6 t129 true) else (if (a3.size : Int) > 100 then (lamplighterlaw22_LinTells.j0 k a0 a1 l2 a3 a4 l5 a6 t129 true) else ((lamplighterref22_Short.f k l2 6).bind fun t130 => (if t130 = true then ((lamplighterref22_Kinds.f k l5 200).bind fun t131 => (if t131 = true then (lamplighterlaw22_LinTells.j0 k a0 a1 l2 a3 a4 l5 a6 t129 (decide ((a6.size : Int) > 100))) else (lamplighterlaw22_LinTells.j0 k a0 a1 l2 a3 a4 l5 a6 t129 true))) else (lamplighterlaw22_LinTells.j0 k a0 a1 l2 a3 a4 l5 a6 t129 true))))) = some r := H
  have A8 := Aside0.mk A80
  clear A80
  have HC9 := Aside0.mk H
  clear H
  go_enter Try.func3, Try.ntmps3
  go_upto_region 2 with (first | ((with_reducible refine gate_callee (f := 8) rfl ?_); refine goesL_ (some 16) rfl rfl Try.func8 (by kernel_rfl) rfl #[] rfl (by (try simp only [List.map_toArray, List.map_cons, List.map_nil]); first | done | rfl | (simp only [List.length_drop, List.length_take]; rfl)) ?_; (with_reducible refine (lamplighterlaw22_awake.calls  t129 _ A8.out).mono ?_); rintro e w10 ⟨rfl, hb⟩; refine ⟨_, rfl, ?_⟩; have n0_ := Aside0.mk (below_step (by repeat (first | (with_reducible first | exact HB.out | apply below_alloc | apply pw_below_drewN | apply below_drew1) | exact HB.out)) hb); clear HB; have HB := n0_; clear n0_; (try clear hb); (try clear hb2); (try clear hk); (try clear hi)))
  (try simp only [Act.put, List.setIfInBounds_toArray, List.set_cons_zero, List.set_cons_succ])
  go_cut [39] (fun v39 wc => ∃ (kq : Nat) (x39_8 : Bool), v39 = .bool x39_8 ∧ Aside0 (lamplighterlaw22_LinTells.j0 kq a0 a1 l2 a3 a4 l5 a6 t129 x39_8 = some r) ∧ Aside0 (kq ≤ k) ∧ Aside0 (Below w.heap.size w wc))
  case first =>
    have H := HC9.out
    clear HC9
    by_cases c11 : (a0.size : Int) > 100
    · rw [if_pos c11] at H
      have c11b0 : decide (100 < (a0.size : Int)) = true := decide_eq_true c11
      have c11b1 : decide (100 < a0.size) = true := decide_eq_true (by omega)
      clear c11
      (first | rw [c11b0] | (simp only [i64_w, i32_w]; rw [c11b0]) | skip)
      have H' := Aside0.mk H
      clear H
      go_wp2
      go_meet
      case rel => exact ⟨_, (true), (by first | rfl | (simp; done) | (simp [*]; done)), H', ⟨by first | omega | exact Nat.le_refl _⟩, ⟨by repeat (first | (with_reducible first | exact HB.out | apply below_alloc | apply pw_below_drewN | apply below_drew1) | exact HB.out)⟩⟩
    · rw [if_neg c11] at H
      have c11b0 : decide (100 < (a0.size : Int)) = false := decide_eq_false c11
      have c11b1 : decide (100 < a0.size) = false := decide_eq_false (by omega)
      clear c11
      (first | rw [c11b0] | (simp only [i64_w, i32_w]; rw [c11b0]) | skip)
      by_cases c12 : (a3.size : Int) > 100
      · rw [if_pos c12] at H
        have c12b0 : decide (100 < (a3.size : Int)) = true := decide_eq_true c12
        have c12b1 : decide (100 < a3.size) = true := decide_eq_true (by omega)
        clear c12
        have H' := Aside0.mk H
        clear H
        go_wp2
        go_meet
        case rel => exact ⟨_, (true), (by first | rfl | (simp; done) | (simp [*]; done)), H', ⟨by first | omega | exact Nat.le_refl _⟩, ⟨by repeat (first | (with_reducible first | exact HB.out | apply below_alloc | apply pw_below_drewN | apply below_drew1) | exact HB.out)⟩⟩
      · rw [if_neg c12] at H
        have c12b0 : decide (100 < (a3.size : Int)) = false := decide_eq_false c12
        have c12b1 : decide (100 < a3.size) = false := decide_eq_false (by omega)
        clear c12
        replace H := Option.bind_eq_some_iff.mp H
        obtain ⟨t130, A130, H⟩ := H
        replace H : (if t130 = true then ((lamplighterref22_Kinds.f k l5 200).bind fun t131 => (if t131 = true then (lamplighterlaw22_LinTells.j0 k a0 a1 l2 a3 a4 l5 a6 t129 (decide ((a6.size : Int) > 100))) else (lamplighterlaw22_LinTells.j0 k a0 a1 l2 a3 a4 l5 a6 t129 true))) else (lamplighterlaw22_LinTells.j0 k a0 a1 l2 a3 a4 l5 a6 t129 true)) = some r := H
        have A13 := Aside0.mk A130
        clear A130
        by_cases c14 : t130 = true
        · subst c14
          have H1 : ((lamplighterref22_Kinds.f k l5 200).bind fun t131 => (if t131 = true then (lamplighterlaw22_LinTells.j0 k a0 a1 l2 a3 a4 l5 a6 t129 (decide ((a6.size : Int) > 100))) else (lamplighterlaw22_LinTells.j0 k a0 a1 l2 a3 a4 l5 a6 t129 true))) = some r := by rw [if_pos rfl] at H; exact H
          clear H
          have H := H1
          clear H1
          replace H := Option.bind_eq_some_iff.mp H
          obtain ⟨t131, A150, H⟩ := H
          replace H : (if t131 = true then (lamplighterlaw22_LinTells.j0 k a0 a1 l2 a3 a4 l5 a6 t129 (decide ((a6.size : Int) > 100))) else (lamplighterlaw22_LinTells.j0 k a0 a1 l2 a3 a4 l5 a6 t129 true)) = some r := H
          have A15 := Aside0.mk A150
          clear A150
          by_cases c16 : t131 = true
          · subst c16
            have H1 : (lamplighterlaw22_LinTells.j0 k a0 a1 l2 a3 a4 l5 a6 t129 (decide ((a6.size : Int) > 100))) = some r := by rw [if_pos rfl] at H; exact H
            clear H
            have H := H1
            clear H1
            have H' := Aside0.mk H
            clear H
            go_wp2_with (first | (go_at_call 9; (with_reducible refine (lamplighterref22_Short.calls k _ _ l2 6 true _ ?side1 ?side2 A13.out).mono ?_); (case side1 => repeat (first | exact (Kd.C_below HR2.out HB.out) | (with_reducible refine Kd.C_alloc ?_ _) | (with_reducible refine Kd.C_drewN ?_ _) | (with_reducible refine Kd.C_drew ?_))); (case side2 => exact HC2.out); rintro e w' ⟨rfl, ⟨nd, rfl⟩⟩) | (go_at_call 10; (with_reducible refine (lamplighterref22_Kinds.calls k _ _ l5 200 true _ ?side1 ?side2 A15.out).mono ?_); (case side1 => repeat (first | exact (Kd.C_below HR5.out (by repeat (first | (with_reducible first | exact HB.out | apply below_alloc | apply pw_below_drewN | apply below_drew1) | exact HB.out))) | (with_reducible refine Kd.C_alloc ?_ _) | (with_reducible refine Kd.C_drewN ?_ _) | (with_reducible refine Kd.C_drew ?_))); (case side2 => exact HC5.out); rintro e w' ⟨rfl, ⟨nd, rfl⟩⟩))
            go_meet
            case rel => exact ⟨_, (decide ((a6.size : Int) > 100)), (by first | rfl | (simp; done) | (simp [*]; done)), H', ⟨by first | omega | exact Nat.le_refl _⟩, ⟨by repeat (first | (with_reducible first | exact HB.out | apply below_alloc | apply pw_below_drewN | apply below_drew1) | exact HB.out)⟩⟩
          · replace c16 := Bool.eq_false_iff.mpr c16
            subst c16
            have H1 : (lamplighterlaw22_LinTells.j0 k a0 a1 l2 a3 a4 l5 a6 t129 true) = some r := by rw [if_neg (show ¬ (false = true) by decide)] at H; exact H
            clear H
            have H := H1
            clear H1
            have H' := Aside0.mk H
            clear H
            go_wp2_with (first | (go_at_call 9; (with_reducible refine (lamplighterref22_Short.calls k _ _ l2 6 true _ ?side1 ?side2 A13.out).mono ?_); (case side1 => repeat (first | exact (Kd.C_below HR2.out HB.out) | (with_reducible refine Kd.C_alloc ?_ _) | (with_reducible refine Kd.C_drewN ?_ _) | (with_reducible refine Kd.C_drew ?_))); (case side2 => exact HC2.out); rintro e w' ⟨rfl, ⟨nd, rfl⟩⟩) | (go_at_call 10; (with_reducible refine (lamplighterref22_Kinds.calls k _ _ l5 200 false _ ?side1 ?side2 A15.out).mono ?_); (case side1 => repeat (first | exact (Kd.C_below HR5.out (by repeat (first | (with_reducible first | exact HB.out | apply below_alloc | apply pw_below_drewN | apply below_drew1) | exact HB.out))) | (with_reducible refine Kd.C_alloc ?_ _) | (with_reducible refine Kd.C_drewN ?_ _) | (with_reducible refine Kd.C_drew ?_))); (case side2 => exact HC5.out); rintro e w' ⟨rfl, ⟨nd, rfl⟩⟩))
            go_meet
            case rel => exact ⟨_, (true), (by first | rfl | (simp; done) | (simp [*]; done)), H', ⟨by first | omega | exact Nat.le_refl _⟩, ⟨by repeat (first | (with_reducible first | exact HB.out | apply below_alloc | apply pw_below_drewN | apply below_drew1) | exact HB.out)⟩⟩
        · replace c14 := Bool.eq_false_iff.mpr c14
          subst c14
          have H1 : (lamplighterlaw22_LinTells.j0 k a0 a1 l2 a3 a4 l5 a6 t129 true) = some r := by rw [if_neg (show ¬ (false = true) by decide)] at H; exact H
          clear H
          have H := H1
          clear H1
          have H' := Aside0.mk H
          clear H
          go_wp2_with (first | (go_at_call 9; (with_reducible refine (lamplighterref22_Short.calls k _ _ l2 6 false _ ?side1 ?side2 A13.out).mono ?_); (case side1 => repeat (first | exact (Kd.C_below HR2.out HB.out) | (with_reducible refine Kd.C_alloc ?_ _) | (with_reducible refine Kd.C_drewN ?_ _) | (with_reducible refine Kd.C_drew ?_))); (case side2 => exact HC2.out); rintro e w' ⟨rfl, ⟨nd, rfl⟩⟩))
          go_meet
          case rel => exact ⟨_, (true), (by first | rfl | (simp; done) | (simp [*]; done)), H', ⟨by first | omega | exact Nat.le_refl _⟩, ⟨by repeat (first | (with_reducible first | exact HB.out | apply below_alloc | apply pw_below_drewN | apply below_drew1) | exact HB.out)⟩⟩
  case rest =>
    clear HC9
    try clear c1
    try clear c2
    try clear p2
    try clear c3
    try clear c5
    try clear c8
    try clear c11
    try clear c11b0
    try clear c11b1
    try clear c12
    try clear c12b0
    try clear c12b1
    try clear c14
    try clear c16
    obtain ⟨kq, x39_8, rfl, HA, HJ8, HB⟩ := hcut
    cases kq with
    | zero => exact absurd HA.out (by simp [lamplighterlaw22_LinTells.j0])
    | succ kj8 =>
      have H := HA.out
      clear HA
      simp only [lamplighterlaw22_LinTells.j0] at H
      by_cases c17 : x39_8 = true
      · subst c17
        have H1 : (some t129) = some r := by rw [if_pos rfl] at H; exact H
        clear H
        have H := H1
        clear H1
        obtain rfl := Option.some.inj H
        go_wp2
        go_ret
        exact ⟨by first | rfl | (simp [errW_none, errW_some] <;> rfl) | (simp [*, errW_none, errW_some] <;> rfl), by repeat (first | (with_reducible first | exact HB.out | apply below_alloc | apply pw_below_drewN | apply below_drew1) | exact HB.out)⟩
      · replace c17 := Bool.eq_false_iff.mpr c17
        subst c17
        have H1 : (if t129 = true then ((lin_Check.f a0 a1 l2 a3 a4).bind fun t132 => ((lamplighterref22_Check.f kj8 a0 a1 l2 a3 a4).bind fun t133 => (if (t132 == t133) = true then ((lin_Acts.f l5 a6).bind fun t134 => ((lamplighterref22_Acts.f l5 a6).bind fun t137 => ((lamplighterref22_Same.f kj8 t134 t137).bind fun t140 => (some t140)))) else (none)))) else (none)) = some r := by rw [if_neg (show ¬ (false = true) by decide)] at H; exact H
        clear H
        have H := H1
        clear H1
        by_cases c18 : t129 = true
        · subst c18
          have H1 : ((lin_Check.f a0 a1 l2 a3 a4).bind fun t132 => ((lamplighterref22_Check.f kj8 a0 a1 l2 a3 a4).bind fun t133 => (if (t132 == t133) = true then ((lin_Acts.f l5 a6).bind fun t134 => ((lamplighterref22_Acts.f l5 a6).bind fun t137 => ((lamplighterref22_Same.f kj8 t134 t137).bind fun t140 => (some t140)))) else (none)))) = some r := by rw [if_pos rfl] at H; exact H
          clear H
          have H := H1
          clear H1
          replace H := Option.bind_eq_some_iff.mp H
          obtain ⟨t132, A190, H⟩ := H
          replace H : ((lamplighterref22_Check.f kj8 a0 a1 l2 a3 a4).bind fun t133 => (if (t132 == t133) = true then ((lin_Acts.f l5 a6).bind fun t134 => ((lamplighterref22_Acts.f l5 a6).bind fun t137 => ((lamplighterref22_Same.f kj8 t134 t137).bind fun t140 => (some t140)))) else (none))) = some r := H
          have A19 := Aside0.mk A190
          clear A190
          replace H := Option.bind_eq_some_iff.mp H
          obtain ⟨t133, A200, H⟩ := H
          replace H : (if (t132 == t133) = true then ((lin_Acts.f l5 a6).bind fun t134 => ((lamplighterref22_Acts.f l5 a6).bind fun t137 => ((lamplighterref22_Same.f kj8 t134 t137).bind fun t140 => (some t140)))) else (none)) = some r := H
          have A20 := Aside0.mk A200
          clear A200
          by_cases c21 : (t132 == t133) = true
          · rw [if_pos c21] at H
            have c21b0 : (t132 == t133) = true := c21
            (try (have c21b1 : decide (t132 = t133) = true := by simpa using c21))
            (try (have c21b2 : (t132 == t133) = true := by simpa using c21))
            clear c21
            replace H := Option.bind_eq_some_iff.mp H
            obtain ⟨t134, A220, H⟩ := H
            replace H : ((lamplighterref22_Acts.f l5 a6).bind fun t137 => ((lamplighterref22_Same.f kj8 t134 t137).bind fun t140 => (some t140))) = some r := H
            have A22 := Aside0.mk A220
            clear A220
            replace H := Option.bind_eq_some_iff.mp H
            obtain ⟨t137, A230, H⟩ := H
            replace H : ((lamplighterref22_Same.f kj8 t134 t137).bind fun t140 => (some t140)) = some r := H
            have A23 := Aside0.mk A230
            clear A230
            replace H := Option.bind_eq_some_iff.mp H
            obtain ⟨t140, A240, H⟩ := H
            replace H : (some t140) = some r := H
            have A24 := Aside0.mk A240
            clear A240
            obtain rfl := Option.some.inj H
            go_wp2_with (first | (go_at_call 11; (with_reducible refine (lin_Check.calls a0 a1 _ _ l2 a3 a4 t132 _ ?side1 ?side2 A19.out).mono ?_); (case side1 => repeat (first | exact (Kd.C_below HR2.out HB.out) | (with_reducible refine Kd.C_alloc ?_ _) | (with_reducible refine Kd.C_drewN ?_ _) | (with_reducible refine Kd.C_drew ?_))); (case side2 => exact HC2.out); rintro e w25 ⟨rfl, hb⟩; have n0_ := Aside0.mk (below_step (by repeat (first | (with_reducible first | exact HB.out | apply below_alloc | apply pw_below_drewN | apply below_drew1) | exact HB.out)) hb); clear HB; have HB := n0_; clear n0_; (try clear hb); (try clear hb2); (try clear hk); (try clear hi)) | (go_at_call 12; (with_reducible refine (lamplighterref22_Check.calls kj8 a0 a1 _ _ l2 a3 a4 t133 _ ?side1 ?side2 A20.out).mono ?_); (case side1 => repeat (first | exact (Kd.C_below HR2.out HB.out) | (with_reducible refine Kd.C_alloc ?_ _) | (with_reducible refine Kd.C_drewN ?_ _) | (with_reducible refine Kd.C_drew ?_))); (case side2 => exact HC2.out); rintro e w26 ⟨rfl, hb⟩; have n0_ := Aside0.mk (below_step (by repeat (first | (with_reducible first | exact HB.out | apply below_alloc | apply pw_below_drewN | apply below_drew1) | exact HB.out)) hb); clear HB; have HB := n0_; clear n0_; (try clear hb); (try clear hb2); (try clear hk); (try clear hi)) | (go_at_call 14; (with_reducible refine (lin_Acts.calls _ _ l5 a6 t134 _ ?side1 ?side2 A22.out).mono ?_); (case side1 => repeat (first | exact (Kd.C_below HR5.out HB.out) | (with_reducible refine Kd.C_alloc ?_ _) | (with_reducible refine Kd.C_drewN ?_ _) | (with_reducible refine Kd.C_drew ?_))); (case side2 => exact HC5.out); rintro e w27 ⟨v135, rfl, ho0, hb⟩; have n0_ := Aside0.mk (Kd.R_lower ho0 (below_size (by repeat (first | (with_reducible first | exact HB.out | apply below_alloc | apply pw_below_drewN | apply below_drew1) | exact HB.out)))); have n1_ := Aside0.mk (below_step (by repeat (first | (with_reducible first | exact HB.out | apply below_alloc | apply pw_below_drewN | apply below_drew1) | exact HB.out)) hb); clear HB; have HO136 := n0_; have HB := n1_; clear n0_ n1_; (try clear hb); (try clear hb2); (try clear hk); (try clear hi); (try clear ho0)) | (go_at_call 15; (with_reducible refine (lamplighterref22_Acts.calls _ _ l5 a6 t137 _ ?side1 ?side2 A23.out).mono ?_); (case side1 => repeat (first | exact (Kd.C_below HR5.out HB.out) | (with_reducible refine Kd.C_alloc ?_ _) | (with_reducible refine Kd.C_drewN ?_ _) | (with_reducible refine Kd.C_drew ?_))); (case side2 => exact HC5.out); rintro e w28 ⟨v138, rfl, ho0, hb⟩; have n0_ := Aside0.mk (Kd.R_elder' (by (with_reducible repeat (first | apply Kd.R_alloc | apply Kd.R_drewN | apply Kd.R_drew)); exact HO136.out) (Kd.R_base ho0) hb); have n1_ := Aside0.mk (Kd.R_lower (Kd.R_new' ho0 (Kd.R_lt (by (with_reducible repeat (first | apply Kd.R_alloc | apply Kd.R_drewN | apply Kd.R_drew)); exact HO136.out))) (below_size (by repeat (first | (with_reducible first | exact HB.out | apply below_alloc | apply pw_below_drewN | apply below_drew1) | exact HB.out)))); have n2_ := Aside0.mk (below_step (by repeat (first | (with_reducible first | exact HB.out | apply below_alloc | apply pw_below_drewN | apply below_drew1) | exact HB.out)) hb); clear HO136; clear HB; have HO136 := n0_; have HO139 := n1_; have HB := n2_; clear n0_ n1_ n2_; (try clear hb); (try clear hb2); (try clear hk); (try clear hi); (try clear ho0); obtain ⟨Ao29, co29, eo29⟩ := Kd.R_slice HO136.out; subst eo29; obtain ⟨Ao30, co30, eo30⟩ := Kd.R_slice HO139.out; subst eo30) | (go_at_call 13; (with_reducible refine (lamplighterref22_Same.calls kj8 _ _ t134 _ _ t137 t140 _ ?side1 ?side2 ?side3 ?side4 A24.out).mono ?_); (case side1 => repeat (first | exact (Kd.R_reads' HO136.out).2.2 | (with_reducible refine Kd.C_alloc ?_ _) | (with_reducible refine Kd.C_drewN ?_ _) | (with_reducible refine Kd.C_drew ?_))); (case side2 => exact (Kd.R_reads' HO136.out).2.1); (case side3 => repeat (first | exact (Kd.R_reads' HO139.out).2.2 | (with_reducible refine Kd.C_alloc ?_ _) | (with_reducible refine Kd.C_drewN ?_ _) | (with_reducible refine Kd.C_drew ?_))); (case side4 => exact (Kd.R_reads' HO139.out).2.1); rintro e w' ⟨rfl, ⟨nd, rfl⟩⟩))
            go_ret
            exact ⟨by first | rfl | (simp [errW_none, errW_some] <;> rfl) | (simp [*, errW_none, errW_some] <;> rfl), by repeat (first | (with_reducible first | exact HB.out | apply below_alloc | apply pw_below_drewN | apply below_drew1) | exact HB.out)⟩
          · rw [if_neg c21] at H
            exact absurd H (by simp)
        · replace c18 := Bool.eq_false_iff.mpr c18
          subst c18
          have H1 : (none) = some r := by rw [if_neg (show ¬ (false = true) by decide)] at H; exact H
          clear H
          have H := H1
          clear H1
          exact absurd H (by simp)

end
end Go.Proofs.Ytdblecmelmeibaa.PL
