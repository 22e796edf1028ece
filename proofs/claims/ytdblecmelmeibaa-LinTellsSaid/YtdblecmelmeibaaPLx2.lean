/- Written by this session's own program (hprint.py) with the help of the kit's print. Lean checks it. -/
import Derived.Test.YtdblecmelmeibaaPLx0
namespace Go.Proofs.Ytdblecmelmeibaa.PL
open Go.RowKit Go.Proofs.YtdblecmelmeibaaW.PrintWords Go.Proofs.YtdblecmelmeibaaW.PrintLast Go.Proofs.YtdblecmelmeibaaW.PrintMore
attribute [local go_sem] max2_int min2_int max_two min_two max_three min_three max_four min_four   -- for this text's walks alone
set_option linter.unusedVariables false
set_option linter.unusedSimpArgs false
noncomputable section

-- NOT PRINTED: function 21 (api_Event)

/-! ### lamplighterref22_Short: function 9 -/
def lamplighterref22_Short.l0 : Nat → List (S37) → Int → Int → Option (Bool)
  | 0, _, _, _ => none
  | k + 1, x0, x1, x5 => if x5 < (x0.length : Int) then (if 0 ≤ x5 then (if (((rd_T37 x0 x5).f3).size : Int) > 100 then (some false) else (lamplighterref22_Short.l0 k x0 x1 (wrap64 (x5 + 1)))) else (none)) else (some (decide ((x0.length : Int) ≤ x1)))
def lamplighterref22_Short.f (k : Nat) (l0 : List (S37)) (a1 : Int) : Option (Bool) := lamplighterref22_Short.l0 k l0 a1 0
theorem lamplighterref22_Short.mono_l : ∀ k, (∀ y0 y1 y2, LeO (lamplighterref22_Short.l0 k y0 y1 y2) (lamplighterref22_Short.l0 (k + 1) y0 y1 y2))
  | 0 => fun _ _ _ r h => by simp [lamplighterref22_Short.l0] at h
  | k + 1 => by
    have ih0 := lamplighterref22_Short.mono_l k
    · intro y0 y1 y2
      unfold lamplighterref22_Short.l0
      repeat' first
      | (with_reducible exact ih0 _ _ _)
      | (with_reducible exact LeO.refl _)
      | (with_reducible exact LeO.none _)
      | (with_reducible refine LeO.ite ?_ ?_)
      | (with_reducible refine LeO.bind ?_ (fun _ => ?_))
      | exact ih0 _ _ _
      | exact LeO.none _
      | refine LeO.ite ?_ ?_
      | refine LeO.bind ?_ (fun _ => ?_)
theorem lamplighterref22_Short.mono : ∀ a0 a1 k, LeO (lamplighterref22_Short.f k a0 a1) (lamplighterref22_Short.f (k + 1) a0 a1) := by
  intro a0 a1 k
  have ih0 := lamplighterref22_Short.mono_l k
  unfold lamplighterref22_Short.f
  repeat' first
      | (with_reducible exact ih0 _ _ _)
      | (with_reducible exact LeO.refl _)
      | (with_reducible exact LeO.none _)
      | (with_reducible refine LeO.ite ?_ ?_)
      | (with_reducible refine LeO.bind ?_ (fun _ => ?_))
      | exact ih0 _ _ _
      | exact LeO.none _
      | refine LeO.ite ?_ ?_
      | refine LeO.bind ?_ (fun _ => ?_)
set_option maxHeartbeats 8000000 in
set_option maxRecDepth 100000 in
theorem lamplighterref22_Short.calls (k : Nat) (A0 : Option Addr) (c0 : Nat) (l0 : List (S37)) (a1 : Int) (r : Bool) (w : World) (hr0 : Kd.C k37 w A0 l0.length l0) (hc0 : l0.length ≤ c0) (h : lamplighterref22_Short.f k l0 a1 = some r) :
    Calls Try.prog 9 #[.slice A0 l0.length c0, .int .i64 a1] w fun e w' => e = .returned (.bool r) ∧ Drawn0 w w' := by
  have HR0 := Aside0.mk hr0
  have HC0 := Aside0.mk hc0
  clear hr0 hc0
  have H : (lamplighterref22_Short.l0 k l0 a1 0) = some r := h
  clear h
  have H' := Aside0.mk H
  clear H
  go_enter Try.func9, Try.ntmps9
  go_wp2
  go_loopg [5] k (fun kq v5 w' => ∃ (x5_1 : Int), v5 = .int .i64 x5_1 ∧ Aside0 (lamplighterref22_Short.l0 kq l0 a1 x5_1 = some r) ∧ Aside0 (kq ≤ k) ∧ Drawn0 w w')
  case atStart => exact ⟨(0), (by first | rfl | (simp; done) | (simp [*]; done)), H', ⟨Nat.le_refl _⟩, by repeat (first | exact Drawn0.refl _ | apply Drawn0.step)⟩
  case round =>
    clear H'
    try clear p2
    obtain ⟨x5_1, rfl, HA, HK1, ⟨m1, rfl⟩⟩ := hrel
    cases gk with
    | zero => exact absurd HA.out (by simp [lamplighterref22_Short.l0])
    | succ k1 =>
      have H := HA.out
      clear HA
      simp only [lamplighterref22_Short.l0] at H
      by_cases c3 : x5_1 < (l0.length : Int)
      · rw [if_pos c3] at H
        have c3b0 : decide (x5_1 < (l0.length : Int)) = true := decide_eq_true c3
        clear c3
        by_cases c4 : 0 ≤ x5_1
        · rw [if_pos c4] at H
          have c4b0 : decide (0 ≤ x5_1) = true := decide_eq_true c4
          clear c4
          by_cases c5 : (((rd_T37 l0 x5_1).f3).size : Int) > 100
          · rw [if_pos c5] at H
            have c5b0 : decide (100 < (((rd_T37 l0 x5_1).f3).size : Int)) = true := decide_eq_true c5
            have c5b1 : decide (100 < ((rd_T37 l0 x5_1).f3).size) = true := decide_eq_true (by omega)
            clear c5
            obtain rfl := Option.some.inj H
            have p101 : 0 ≤ (x5_1 : Int) := of_decide_eq_true (by first | (with_reducible assumption) | assumption)
            have q101 : x5_1 < (l0.length : Int) := of_decide_eq_true (by first | (with_reducible assumption) | assumption)
            obtain ⟨ad101, e101, hx101_0, hx101_1, hx101_2, hx101_3, hx101_4, hx101_5⟩ := at_T37 HR0.out x5_1 p101 q101
            cases e101
            replace p101 := eq_true p101
            replace q101 := eq_true q101
            go_wp2
            go_ret
            exact ⟨by first | rfl | (simp; done) | (simp [*]; done), by repeat (first | exact Drawn0.refl _ | apply Drawn0.step)⟩
          · rw [if_neg c5] at H
            have c5b0 : decide (100 < (((rd_T37 l0 x5_1).f3).size : Int)) = false := decide_eq_false c5
            have c5b1 : decide (100 < ((rd_T37 l0 x5_1).f3).size) = false := decide_eq_false (by omega)
            clear c5
            have H' := Aside0.mk H
            clear H
            have p101 : 0 ≤ (x5_1 : Int) := of_decide_eq_true (by first | (with_reducible assumption) | assumption)
            have q101 : x5_1 < (l0.length : Int) := of_decide_eq_true (by first | (with_reducible assumption) | assumption)
            obtain ⟨ad101, e101, hx101_0, hx101_1, hx101_2, hx101_3, hx101_4, hx101_5⟩ := at_T37 HR0.out x5_1 p101 q101
            cases e101
            replace p101 := eq_true p101
            replace q101 := eq_true q101
            go_wp2
            go_roundg k1
            case measure => have := HK1.out; omega
            case rel => exact ⟨(wrap64 (x5_1 + 1)), (by first | rfl | (simp; done) | (simp [*]; done)), H', ⟨by have := HK1.out; omega⟩, by repeat (first | exact Drawn0.refl _ | apply Drawn0.step)⟩
        · rw [if_neg c4] at H
          exact absurd H (by simp)
      · rw [if_neg c3] at H
        have c3b0 : decide (x5_1 < (l0.length : Int)) = false := decide_eq_false c3
        clear c3
        obtain rfl := Option.some.inj H
        go_wp2
        go_ret
        exact ⟨by first | rfl | (simp; done) | (simp [*]; done), by repeat (first | exact Drawn0.refl _ | apply Drawn0.step)⟩

/-! ### lamplighterref22_Kinds: function 10 -/
mutual
def lamplighterref22_Kinds.l0 : Nat → List (S48) → Int → Int → Option (Bool)
  | 0, _, _, _ => none
  | k + 1, x0, x1, x5 => if x5 < (x0.length : Int) then (if 0 ≤ x5 then (if (((rd_T48 x0 x5).f3).size : Int) > 100 then (lamplighterref22_Kinds.j1 k x0 x1 x5 true) else (if (((rd_T48 x0 x5).f2.f1).size : Int) > 100 then (lamplighterref22_Kinds.j1 k x0 x1 x5 true) else (if (((rd_T48 x0 x5).f2.f2).size : Int) > 100 then (lamplighterref22_Kinds.j1 k x0 x1 x5 true) else (lamplighterref22_Kinds.j1 k x0 x1 x5 (decide ((((rd_T48 x0 x5).f2.f3).size : Int) > 100)))))) else (none)) else (some (decide ((x0.length : Int) ≤ x1)))
def lamplighterref22_Kinds.j1 : Nat → List (S48) → Int → Int → Bool → Option (Bool)
  | 0, _, _, _, _ => none
  | k + 1, x0, x1, x5, x48 => if x48 = true then (some false) else (lamplighterref22_Kinds.l0 k x0 x1 (wrap64 (x5 + 1)))
end
def lamplighterref22_Kinds.f (k : Nat) (l0 : List (S48)) (a1 : Int) : Option (Bool) := lamplighterref22_Kinds.l0 k l0 a1 0
theorem lamplighterref22_Kinds.mono_l : ∀ k, (∀ y0 y1 y2, LeO (lamplighterref22_Kinds.l0 k y0 y1 y2) (lamplighterref22_Kinds.l0 (k + 1) y0 y1 y2)) ∧ (∀ y0 y1 y2 y3, LeO (lamplighterref22_Kinds.j1 k y0 y1 y2 y3) (lamplighterref22_Kinds.j1 (k + 1) y0 y1 y2 y3))
  | 0 => ⟨fun _ _ _ r h => by simp [lamplighterref22_Kinds.l0] at h, fun _ _ _ _ r h => by simp [lamplighterref22_Kinds.j1] at h⟩
  | k + 1 => by
    obtain ⟨ih0, ih1⟩ := lamplighterref22_Kinds.mono_l k
    refine ⟨?_, ?_⟩
    · intro y0 y1 y2
      unfold lamplighterref22_Kinds.l0
      repeat' first
      | (with_reducible exact ih0 _ _ _)
      | (with_reducible exact ih1 _ _ _ _)
      | (with_reducible exact LeO.refl _)
      | (with_reducible exact LeO.none _)
      | (with_reducible refine LeO.ite ?_ ?_)
      | (with_reducible refine LeO.bind ?_ (fun _ => ?_))
      | exact ih0 _ _ _
      | exact ih1 _ _ _ _
      | exact LeO.none _
      | refine LeO.ite ?_ ?_
      | refine LeO.bind ?_ (fun _ => ?_)
    · intro y0 y1 y2 y3
      unfold lamplighterref22_Kinds.j1
      repeat' first
      | (with_reducible exact ih0 _ _ _)
      | (with_reducible exact ih1 _ _ _ _)
      | (with_reducible exact LeO.refl _)
      | (with_reducible exact LeO.none _)
      | (with_reducible refine LeO.ite ?_ ?_)
      | (with_reducible refine LeO.bind ?_ (fun _ => ?_))
      | exact ih0 _ _ _
      | exact ih1 _ _ _ _
      | exact LeO.none _
      | refine LeO.ite ?_ ?_
      | refine LeO.bind ?_ (fun _ => ?_)
theorem lamplighterref22_Kinds.mono : ∀ a0 a1 k, LeO (lamplighterref22_Kinds.f k a0 a1) (lamplighterref22_Kinds.f (k + 1) a0 a1) := by
  intro a0 a1 k
  obtain ⟨ih0, ih1⟩ := lamplighterref22_Kinds.mono_l k
  unfold lamplighterref22_Kinds.f
  repeat' first
      | (with_reducible exact ih0 _ _ _)
      | (with_reducible exact ih1 _ _ _ _)
      | (with_reducible exact LeO.refl _)
      | (with_reducible exact LeO.none _)
      | (with_reducible refine LeO.ite ?_ ?_)
      | (with_reducible refine LeO.bind ?_ (fun _ => ?_))
      | exact ih0 _ _ _
      | exact ih1 _ _ _ _
      | exact LeO.none _
      | refine LeO.ite ?_ ?_
      | refine LeO.bind ?_ (fun _ => ?_)
set_option maxHeartbeats 8000000 in
set_option maxRecDepth 100000 in
theorem lamplighterref22_Kinds.calls (k : Nat) (A0 : Option Addr) (c0 : Nat) (l0 : List (S48)) (a1 : Int) (r : Bool) (w : World) (hr0 : Kd.C k48 w A0 l0.length l0) (hc0 : l0.length ≤ c0) (h : lamplighterref22_Kinds.f k l0 a1 = some r) :
    Calls Try.prog 10 #[.slice A0 l0.length c0, .int .i64 a1] w fun e w' => e = .returned (.bool r) ∧ Drawn0 w w' := by
  have HR0 := Aside0.mk hr0
  have HC0 := Aside0.mk hc0
  clear hr0 hc0
  have H : (lamplighterref22_Kinds.l0 k l0 a1 0) = some r := h
  clear h
  have H' := Aside0.mk H
  clear H
  go_enter Try.func10, Try.ntmps10
  go_wp2
  go_loopg [5] k (fun kq v5 w' => ∃ (x5_1 : Int), v5 = .int .i64 x5_1 ∧ Aside0 (lamplighterref22_Kinds.l0 kq l0 a1 x5_1 = some r) ∧ Aside0 (kq ≤ k) ∧ Drawn0 w w')
  case atStart => exact ⟨(0), (by first | rfl | (simp; done) | (simp [*]; done)), H', ⟨Nat.le_refl _⟩, by repeat (first | exact Drawn0.refl _ | apply Drawn0.step)⟩
  case round =>
    clear H'
    try clear c1
    try clear p2
    obtain ⟨x5_1, rfl, HA, HK1, ⟨m1, rfl⟩⟩ := hrel
    cases gk with
    | zero => exact absurd HA.out (by simp [lamplighterref22_Kinds.l0])
    | succ k1 =>
      have H := HA.out
      clear HA
      simp only [lamplighterref22_Kinds.l0] at H
      by_cases c3 : x5_1 < (l0.length : Int)
      · rw [if_pos c3] at H
        have c3b0 : decide (x5_1 < (l0.length : Int)) = true := decide_eq_true c3
        clear c3
        have HC4 := Aside0.mk H
        clear H
        go_upto_region 4 with (fail)
        go_cut [48] (fun v48 wc => ∃ (kq : Nat) (x48_3 : Bool), v48 = .bool x48_3 ∧ Aside0 (lamplighterref22_Kinds.j1 kq l0 a1 x5_1 x48_3 = some r) ∧ Aside0 (kq ≤ k1) ∧ Drawn0 w wc)
        case first =>
          have H := HC4.out
          clear HC4
          by_cases c5 : 0 ≤ x5_1
          · rw [if_pos c5] at H
            have c5b0 : decide (0 ≤ x5_1) = true := decide_eq_true c5
            clear c5
            (first | rw [c5b0] | (simp only [i64_w, i32_w]; rw [c5b0]) | skip)
            by_cases c6 : (((rd_T48 l0 x5_1).f3).size : Int) > 100
            · rw [if_pos c6] at H
              have c6b0 : decide (100 < (((rd_T48 l0 x5_1).f3).size : Int)) = true := decide_eq_true c6
              have c6b1 : decide (100 < ((rd_T48 l0 x5_1).f3).size) = true := decide_eq_true (by omega)
              clear c6
              have H' := Aside0.mk H
              clear H
              have p102 : 0 ≤ (x5_1 : Int) := of_decide_eq_true (by first | (with_reducible assumption) | assumption)
              have q102 : x5_1 < (l0.length : Int) := of_decide_eq_true (by first | (with_reducible assumption) | assumption)
              obtain ⟨ad102, A102_10, c102_10, e102, hx102_0, hx102_1, hx102_2, hx102_3, hx102_4, hx102_5, hx102_6, hx102_7, hx102_8, hx102_9, hx102_10, hl102_10, hi102_10⟩ := at_T48 HR0.out x5_1 p102 q102
              cases e102
              have HR102_10 := Aside0.mk hi102_10
              have HC102_10 := Aside0.mk hl102_10
              clear hi102_10 hl102_10
              replace p102 := eq_true p102
              replace q102 := eq_true q102
              go_wp2
              go_meet
              case rel => exact ⟨_, (true), (by first | rfl | (simp; done) | (simp [*]; done)), H', ⟨by have := HK1.out; first | omega | exact Nat.le_refl _⟩, by repeat (first | exact Drawn0.refl _ | apply Drawn0.step)⟩
            · rw [if_neg c6] at H
              have c6b0 : decide (100 < (((rd_T48 l0 x5_1).f3).size : Int)) = false := decide_eq_false c6
              have c6b1 : decide (100 < ((rd_T48 l0 x5_1).f3).size) = false := decide_eq_false (by omega)
              clear c6
              by_cases c7 : (((rd_T48 l0 x5_1).f2.f1).size : Int) > 100
              · rw [if_pos c7] at H
                have c7b0 : decide (100 < (((rd_T48 l0 x5_1).f2.f1).size : Int)) = true := decide_eq_true c7
                have c7b1 : decide (100 < ((rd_T48 l0 x5_1).f2.f1).size) = true := decide_eq_true (by omega)
                clear c7
                have H' := Aside0.mk H
                clear H
                have p102 : 0 ≤ (x5_1 : Int) := of_decide_eq_true (by first | (with_reducible assumption) | assumption)
                have q102 : x5_1 < (l0.length : Int) := of_decide_eq_true (by first | (with_reducible assumption) | assumption)
                obtain ⟨ad102, A102_10, c102_10, e102, hx102_0, hx102_1, hx102_2, hx102_3, hx102_4, hx102_5, hx102_6, hx102_7, hx102_8, hx102_9, hx102_10, hl102_10, hi102_10⟩ := at_T48 HR0.out x5_1 p102 q102
                cases e102
                have HR102_10 := Aside0.mk hi102_10
                have HC102_10 := Aside0.mk hl102_10
                clear hi102_10 hl102_10
                replace p102 := eq_true p102
                replace q102 := eq_true q102
                have p103 : 0 ≤ (x5_1 : Int) := of_decide_eq_true (by first | (with_reducible assumption) | assumption)
                have q103 : x5_1 < (l0.length : Int) := of_decide_eq_true (by first | (with_reducible assumption) | assumption)
                obtain ⟨ad103, A103_10, c103_10, e103, hx103_0, hx103_1, hx103_2, hx103_3, hx103_4, hx103_5, hx103_6, hx103_7, hx103_8, hx103_9, hx103_10, hl103_10, hi103_10⟩ := at_T48 HR0.out x5_1 p103 q103
                obtain rfl : ad102 = ad103 := (by injection e103)
                have HR103_10 := Aside0.mk hi103_10
                have HC103_10 := Aside0.mk hl103_10
                clear hi103_10 hl103_10
                replace p103 := eq_true p103
                replace q103 := eq_true q103
                have ea_ := Option.some.inj (hx102_10.symm.trans hx103_10)
                injection ea_ with ea_ en_ ec_
                subst ea_
                subst ec_
                clear en_
                go_wp2
                go_meet
                case rel => exact ⟨_, (true), (by first | rfl | (simp; done) | (simp [*]; done)), H', ⟨by have := HK1.out; first | omega | exact Nat.le_refl _⟩, by repeat (first | exact Drawn0.refl _ | apply Drawn0.step)⟩
              · rw [if_neg c7] at H
                have c7b0 : decide (100 < (((rd_T48 l0 x5_1).f2.f1).size : Int)) = false := decide_eq_false c7
                have c7b1 : decide (100 < ((rd_T48 l0 x5_1).f2.f1).size) = false := decide_eq_false (by omega)
                clear c7
                by_cases c8 : (((rd_T48 l0 x5_1).f2.f2).size : Int) > 100
                · rw [if_pos c8] at H
                  have c8b0 : decide (100 < (((rd_T48 l0 x5_1).f2.f2).size : Int)) = true := decide_eq_true c8
                  have c8b1 : decide (100 < ((rd_T48 l0 x5_1).f2.f2).size) = true := decide_eq_true (by omega)
                  clear c8
                  have H' := Aside0.mk H
                  clear H
                  have p102 : 0 ≤ (x5_1 : Int) := of_decide_eq_true (by first | (with_reducible assumption) | assumption)
                  have q102 : x5_1 < (l0.length : Int) := of_decide_eq_true (by first | (with_reducible assumption) | assumption)
                  obtain ⟨ad102, A102_10, c102_10, e102, hx102_0, hx102_1, hx102_2, hx102_3, hx102_4, hx102_5, hx102_6, hx102_7, hx102_8, hx102_9, hx102_10, hl102_10, hi102_10⟩ := at_T48 HR0.out x5_1 p102 q102
                  cases e102
                  have HR102_10 := Aside0.mk hi102_10
                  have HC102_10 := Aside0.mk hl102_10
                  clear hi102_10 hl102_10
                  replace p102 := eq_true p102
                  replace q102 := eq_true q102
                  have p103 : 0 ≤ (x5_1 : Int) := of_decide_eq_true (by first | (with_reducible assumption) | assumption)
                  have q103 : x5_1 < (l0.length : Int) := of_decide_eq_true (by first | (with_reducible assumption) | assumption)
                  obtain ⟨ad103, A103_10, c103_10, e103, hx103_0, hx103_1, hx103_2, hx103_3, hx103_4, hx103_5, hx103_6, hx103_7, hx103_8, hx103_9, hx103_10, hl103_10, hi103_10⟩ := at_T48 HR0.out x5_1 p103 q103
                  obtain rfl : ad102 = ad103 := (by injection e103)
                  have HR103_10 := Aside0.mk hi103_10
                  have HC103_10 := Aside0.mk hl103_10
                  clear hi103_10 hl103_10
                  replace p103 := eq_true p103
                  replace q103 := eq_true q103
                  have ea_ := Option.some.inj (hx102_10.symm.trans hx103_10)
                  injection ea_ with ea_ en_ ec_
                  subst ea_
                  subst ec_
                  clear en_
                  have p104 : 0 ≤ (x5_1 : Int) := of_decide_eq_true (by first | (with_reducible assumption) | assumption)
                  have q104 : x5_1 < (l0.length : Int) := of_decide_eq_true (by first | (with_reducible assumption) | assumption)
                  obtain ⟨ad104, A104_10, c104_10, e104, hx104_0, hx104_1, hx104_2, hx104_3, hx104_4, hx104_5, hx104_6, hx104_7, hx104_8, hx104_9, hx104_10, hl104_10, hi104_10⟩ := at_T48 HR0.out x5_1 p104 q104
                  obtain rfl : ad102 = ad104 := (by injection e104)
                  have HR104_10 := Aside0.mk hi104_10
                  have HC104_10 := Aside0.mk hl104_10
                  clear hi104_10 hl104_10
                  replace p104 := eq_true p104
                  replace q104 := eq_true q104
                  have ea_ := Option.some.inj (hx102_10.symm.trans hx104_10)
                  injection ea_ with ea_ en_ ec_
                  subst ea_
                  subst ec_
                  clear en_
                  go_wp2
                  go_meet
                  case rel => exact ⟨_, (true), (by first | rfl | (simp; done) | (simp [*]; done)), H', ⟨by have := HK1.out; first | omega | exact Nat.le_refl _⟩, by repeat (first | exact Drawn0.refl _ | apply Drawn0.step)⟩
                · rw [if_neg c8] at H
                  have c8b0 : decide (100 < (((rd_T48 l0 x5_1).f2.f2).size : Int)) = false := decide_eq_false c8
                  have c8b1 : decide (100 < ((rd_T48 l0 x5_1).f2.f2).size) = false := decide_eq_false (by omega)
                  clear c8
                  have H' := Aside0.mk H
                  clear H
                  have p102 : 0 ≤ (x5_1 : Int) := of_decide_eq_true (by first | (with_reducible assumption) | assumption)
                  have q102 : x5_1 < (l0.length : Int) := of_decide_eq_true (by first | (with_reducible assumption) | assumption)
                  obtain ⟨ad102, A102_10, c102_10, e102, hx102_0, hx102_1, hx102_2, hx102_3, hx102_4, hx102_5, hx102_6, hx102_7, hx102_8, hx102_9, hx102_10, hl102_10, hi102_10⟩ := at_T48 HR0.out x5_1 p102 q102
                  cases e102
                  have HR102_10 := Aside0.mk hi102_10
                  have HC102_10 := Aside0.mk hl102_10
                  clear hi102_10 hl102_10
                  replace p102 := eq_true p102
                  replace q102 := eq_true q102
                  have p103 : 0 ≤ (x5_1 : Int) := of_decide_eq_true (by first | (with_reducible assumption) | assumption)
                  have q103 : x5_1 < (l0.length : Int) := of_decide_eq_true (by first | (with_reducible assumption) | assumption)
                  obtain ⟨ad103, A103_10, c103_10, e103, hx103_0, hx103_1, hx103_2, hx103_3, hx103_4, hx103_5, hx103_6, hx103_7, hx103_8, hx103_9, hx103_10, hl103_10, hi103_10⟩ := at_T48 HR0.out x5_1 p103 q103
                  obtain rfl : ad102 = ad103 := (by injection e103)
                  have HR103_10 := Aside0.mk hi103_10
                  have HC103_10 := Aside0.mk hl103_10
                  clear hi103_10 hl103_10
                  replace p103 := eq_true p103
                  replace q103 := eq_true q103
                  have ea_ := Option.some.inj (hx102_10.symm.trans hx103_10)
                  injection ea_ with ea_ en_ ec_
                  subst ea_
                  subst ec_
                  clear en_
                  have p104 : 0 ≤ (x5_1 : Int) := of_decide_eq_true (by first | (with_reducible assumption) | assumption)
                  have q104 : x5_1 < (l0.length : Int) := of_decide_eq_true (by first | (with_reducible assumption) | assumption)
                  obtain ⟨ad104, A104_10, c104_10, e104, hx104_0, hx104_1, hx104_2, hx104_3, hx104_4, hx104_5, hx104_6, hx104_7, hx104_8, hx104_9, hx104_10, hl104_10, hi104_10⟩ := at_T48 HR0.out x5_1 p104 q104
                  obtain rfl : ad102 = ad104 := (by injection e104)
                  have HR104_10 := Aside0.mk hi104_10
                  have HC104_10 := Aside0.mk hl104_10
                  clear hi104_10 hl104_10
                  replace p104 := eq_true p104
                  replace q104 := eq_true q104
                  have ea_ := Option.some.inj (hx102_10.symm.trans hx104_10)
                  injection ea_ with ea_ en_ ec_
                  subst ea_
                  subst ec_
                  clear en_
                  have p105 : 0 ≤ (x5_1 : Int) := of_decide_eq_true (by first | (with_reducible assumption) | assumption)
                  have q105 : x5_1 < (l0.length : Int) := of_decide_eq_true (by first | (with_reducible assumption) | assumption)
                  obtain ⟨ad105, A105_10, c105_10, e105, hx105_0, hx105_1, hx105_2, hx105_3, hx105_4, hx105_5, hx105_6, hx105_7, hx105_8, hx105_9, hx105_10, hl105_10, hi105_10⟩ := at_T48 HR0.out x5_1 p105 q105
                  obtain rfl : ad102 = ad105 := (by injection e105)
                  have HR105_10 := Aside0.mk hi105_10
                  have HC105_10 := Aside0.mk hl105_10
                  clear hi105_10 hl105_10
                  replace p105 := eq_true p105
                  replace q105 := eq_true q105
                  have ea_ := Option.some.inj (hx102_10.symm.trans hx105_10)
                  injection ea_ with ea_ en_ ec_
                  subst ea_
                  subst ec_
                  clear en_
                  go_wp2
                  go_meet
                  case rel => exact ⟨_, (decide ((((rd_T48 l0 x5_1).f2.f3).size : Int) > 100)), (by first | rfl | (simp; done) | (simp [*]; done)), H', ⟨by have := HK1.out; first | omega | exact Nat.le_refl _⟩, by repeat (first | exact Drawn0.refl _ | apply Drawn0.step)⟩
          · rw [if_neg c5] at H
            exact absurd H (by simp)
        case rest =>
          clear HC4
          try clear c1
          try clear p1
          try clear q1
          try clear hx1
          try clear p2
          try clear c3
          try clear c3b0
          try clear c5
          try clear c5b0
          try clear c6
          try clear c6b0
          try clear c6b1
          try clear c7
          try clear c7b0
          try clear c7b1
          try clear c8
          try clear c8b0
          try clear c8b1
          try clear hx102_0
          try clear hx102_1
          try clear hx102_10
          try clear hx102_2
          try clear hx102_3
          try clear hx102_4
          try clear hx102_5
          try clear hx102_6
          try clear hx102_7
          try clear hx102_8
          try clear hx102_9
          try clear hx103_0
          try clear hx103_1
          try clear hx103_10
          try clear hx103_2
          try clear hx103_3
          try clear hx103_4
          try clear hx103_5
          try clear hx103_6
          try clear hx103_7
          try clear hx103_8
          try clear hx103_9
          try clear hx104_0
          try clear hx104_1
          try clear hx104_10
          try clear hx104_2
          try clear hx104_3
          try clear hx104_4
          try clear hx104_5
          try clear hx104_6
          try clear hx104_7
          try clear hx104_8
          try clear hx104_9
          try clear hx105_0
          try clear hx105_1
          try clear hx105_10
          try clear hx105_2
          try clear hx105_3
          try clear hx105_4
          try clear hx105_5
          try clear hx105_6
          try clear hx105_7
          try clear hx105_8
          try clear hx105_9
          try clear p102
          try clear p103
          try clear p104
          try clear p105
          try clear p2
          try clear q102
          try clear q103
          try clear q104
          try clear q105
          obtain ⟨kq, x48_3, rfl, HA, HJ3, ⟨mc3, rfl⟩⟩ := hcut
          cases kq with
          | zero => exact absurd HA.out (by simp [lamplighterref22_Kinds.j1])
          | succ kj3 =>
            have H := HA.out
            clear HA
            simp only [lamplighterref22_Kinds.j1] at H
            by_cases c9 : x48_3 = true
            · subst c9
              have H1 : (some false) = some r := by rw [if_pos rfl] at H; exact H
              clear H
              have H := H1
              clear H1
              obtain rfl := Option.some.inj H
              go_wp2
              go_ret
              exact ⟨by first | rfl | (simp; done) | (simp [*]; done), by repeat (first | exact Drawn0.refl _ | apply Drawn0.step)⟩
            · replace c9 := Bool.eq_false_iff.mpr c9
              subst c9
              have H1 : (lamplighterref22_Kinds.l0 kj3 l0 a1 (wrap64 (x5_1 + 1))) = some r := by rw [if_neg (show ¬ (false = true) by decide)] at H; exact H
              clear H
              have H := H1
              clear H1
              have H' := Aside0.mk H
              clear H
              go_wp2
              go_roundg kj3
              case measure => have := HK1.out; have := HJ3.out; omega
              case rel => exact ⟨(wrap64 (x5_1 + 1)), (by first | rfl | (simp; done) | (simp [*]; done)), H', ⟨by have := HK1.out; have := HJ3.out; omega⟩, by repeat (first | exact Drawn0.refl _ | apply Drawn0.step)⟩
      · rw [if_neg c3] at H
        have c3b0 : decide (x5_1 < (l0.length : Int)) = false := decide_eq_false c3
        clear c3
        obtain rfl := Option.some.inj H
        go_wp2
        go_ret
        exact ⟨by first | rfl | (simp; done) | (simp [*]; done), by repeat (first | exact Drawn0.refl _ | apply Drawn0.step)⟩

/-! ### lamplighterref22_first: function 23 -/
mutual
def lamplighterref22_first.l0 : Nat → List (S37) → Int → Int → Option (Bool)
  | 0, _, _, _ => none
  | k + 1, x0, x1, x5 => if x5 < (x0.length : Int) then (if x5 = x1 then (lamplighterref22_first.j1 k x0 x1 x5 false) else (if 0 ≤ x5 then (if (rd_T37 x0 x5).f5 = true then (if 0 ≤ x1 then (if x1 < (x0.length : Int) then (lamplighterref22_first.j1 k x0 x1 x5 (decide (((rd_T37 x0 x5).f1) < ((rd_T37 x0 x1).f0)))) else (none)) else (none)) else (lamplighterref22_first.j1 k x0 x1 x5 false)) else (none))) else (some true)
def lamplighterref22_first.j1 : Nat → List (S37) → Int → Int → Bool → Option (Bool)
  | 0, _, _, _, _ => none
  | k + 1, x0, x1, x5, x34 => if x34 = true then (some false) else (lamplighterref22_first.l0 k x0 x1 (wrap64 (x5 + 1)))
end
def lamplighterref22_first.f (k : Nat) (l0 : List (S37)) (a1 : Int) : Option (Bool) := lamplighterref22_first.l0 k l0 a1 0
theorem lamplighterref22_first.mono_l : ∀ k, (∀ y0 y1 y2, LeO (lamplighterref22_first.l0 k y0 y1 y2) (lamplighterref22_first.l0 (k + 1) y0 y1 y2)) ∧ (∀ y0 y1 y2 y3, LeO (lamplighterref22_first.j1 k y0 y1 y2 y3) (lamplighterref22_first.j1 (k + 1) y0 y1 y2 y3))
  | 0 => ⟨fun _ _ _ r h => by simp [lamplighterref22_first.l0] at h, fun _ _ _ _ r h => by simp [lamplighterref22_first.j1] at h⟩
  | k + 1 => by
    obtain ⟨ih0, ih1⟩ := lamplighterref22_first.mono_l k
    refine ⟨?_, ?_⟩
    · intro y0 y1 y2
      unfold lamplighterref22_first.l0
      repeat' first
      | (with_reducible exact ih0 _ _ _)
      | (with_reducible exact ih1 _ _ _ _)
      | (with_reducible exact LeO.refl _)
      | (with_reducible exact LeO.none _)
      | (with_reducible refine LeO.ite ?_ ?_)
      | (with_reducible refine LeO.bind ?_ (fun _ => ?_))
      | exact ih0 _ _ _
      | exact ih1 _ _ _ _
      | exact LeO.none _
      | refine LeO.ite ?_ ?_
      | refine LeO.bind ?_ (fun _ => ?_)
    · intro y0 y1 y2 y3
      unfold lamplighterref22_first.j1
      repeat' first
      | (with_reducible exact ih0 _ _ _)
      | (with_reducible exact ih1 _ _ _ _)
      | (with_reducible exact LeO.refl _)
      | (with_reducible exact LeO.none _)
      | (with_reducible refine LeO.ite ?_ ?_)
      | (with_reducible refine LeO.bind ?_ (fun _ => ?_))
      | exact ih0 _ _ _
      | exact ih1 _ _ _ _
      | exact LeO.none _
      | refine LeO.ite ?_ ?_
      | refine LeO.bind ?_ (fun _ => ?_)
theorem lamplighterref22_first.mono : ∀ a0 a1 k, LeO (lamplighterref22_first.f k a0 a1) (lamplighterref22_first.f (k + 1) a0 a1) := by
  intro a0 a1 k
  obtain ⟨ih0, ih1⟩ := lamplighterref22_first.mono_l k
  unfold lamplighterref22_first.f
  repeat' first
      | (with_reducible exact ih0 _ _ _)
      | (with_reducible exact ih1 _ _ _ _)
      | (with_reducible exact LeO.refl _)
      | (with_reducible exact LeO.none _)
      | (with_reducible refine LeO.ite ?_ ?_)
      | (with_reducible refine LeO.bind ?_ (fun _ => ?_))
      | exact ih0 _ _ _
      | exact ih1 _ _ _ _
      | exact LeO.none _
      | refine LeO.ite ?_ ?_
      | refine LeO.bind ?_ (fun _ => ?_)
set_option maxHeartbeats 8000000 in
set_option maxRecDepth 100000 in
theorem lamplighterref22_first.calls (k : Nat) (A0 : Option Addr) (c0 : Nat) (l0 : List (S37)) (a1 : Int) (r : Bool) (w : World) (hr0 : Kd.C k37 w A0 l0.length l0) (hc0 : l0.length ≤ c0) (h : lamplighterref22_first.f k l0 a1 = some r) :
    Calls Try.prog 23 #[.slice A0 l0.length c0, .int .i64 a1] w fun e w' => e = .returned (.bool r) ∧ Drawn0 w w' := by
  have HR0 := Aside0.mk hr0
  have HC0 := Aside0.mk hc0
  clear hr0 hc0
  have H : (lamplighterref22_first.l0 k l0 a1 0) = some r := h
  clear h
  have H' := Aside0.mk H
  clear H
  go_enter Try.func23, Try.ntmps23
  go_wp2
  repeat (go_quiet (fail); try go_wp2)
  go_loopg [5] k (fun kq v5 w' => ∃ (x5_1 : Int), v5 = .int .i64 x5_1 ∧ Aside0 (lamplighterref22_first.l0 kq l0 a1 x5_1 = some r) ∧ Aside0 (kq ≤ k) ∧ Drawn0 w w')
  case atStart => exact ⟨(0), (by first | rfl | (simp; done) | (simp [*]; done)), H', ⟨Nat.le_refl _⟩, by repeat (first | exact Drawn0.refl _ | apply Drawn0.step)⟩
  case round =>
    clear H'
    try clear c2
    try clear p2
    obtain ⟨x5_1, rfl, HA, HK1, ⟨m1, rfl⟩⟩ := hrel
    cases gk with
    | zero => exact absurd HA.out (by simp [lamplighterref22_first.l0])
    | succ k1 =>
      have H := HA.out
      clear HA
      simp only [lamplighterref22_first.l0] at H
      by_cases c3 : x5_1 < (l0.length : Int)
      · rw [if_pos c3] at H
        have c3b0 : decide (x5_1 < (l0.length : Int)) = true := decide_eq_true c3
        clear c3
        have HC4 := Aside0.mk H
        clear H
        go_upto_region 4 with (fail)
        repeat (go_quiet (fail); go_upto_region 4 with (fail))
        go_cut [34] (fun v34 wc => ∃ (kq : Nat) (x34_3 : Bool), v34 = .bool x34_3 ∧ Aside0 (lamplighterref22_first.j1 kq l0 a1 x5_1 x34_3 = some r) ∧ Aside0 (kq ≤ k1) ∧ Drawn0 w wc)
        case first =>
          have H := HC4.out
          clear HC4
          by_cases c5 : x5_1 = a1
          · rw [if_pos c5] at H
            have c5b0 : (x5_1 == a1) = true := beq_iff_eq.mpr c5
            have c5b1 : (x5_1 != a1) = false := bne_eq_false_iff_eq.mpr c5
            clear c5
            (first | rw [c5b0] | (simp only [i64_w, i32_w]; rw [c5b0]) | skip)
            have H' := Aside0.mk H
            clear H
            go_wp2
            repeat (go_quiet (fail); try go_wp2)
            go_meet
            case rel => exact ⟨_, (false), (by first | rfl | (simp; done) | (simp [*]; done)), H', ⟨by have := HK1.out; first | omega | exact Nat.le_refl _⟩, by repeat (first | exact Drawn0.refl _ | apply Drawn0.step)⟩
          · rw [if_neg c5] at H
            have c5b0 : (x5_1 == a1) = false := beq_eq_false_iff_ne.mpr c5
            have c5b1 : (x5_1 != a1) = true := bne_iff_ne.mpr c5
            (first | rw [c5b0] | (simp only [i64_w, i32_w]; rw [c5b0]) | skip)
            by_cases c6 : 0 ≤ x5_1
            · rw [if_pos c6] at H
              have c6b0 : decide (0 ≤ x5_1) = true := decide_eq_true c6
              clear c6
              obtain ⟨bq7, hbq7⟩ : ∃ b_ : Bool, b_ = ((rd_T37 l0 x5_1).f5) := ⟨_, rfl⟩
              replace H : (if bq7 = true then (if 0 ≤ a1 then (if a1 < (l0.length : Int) then (lamplighterref22_first.j1 k1 l0 a1 x5_1 (decide (((rd_T37 l0 x5_1).f1) < ((rd_T37 l0 a1).f0)))) else (none)) else (none)) else (lamplighterref22_first.j1 k1 l0 a1 x5_1 false)) = some r := by rw [← hbq7] at H; exact H
              have Nbq7 := Aside0.mk hbq7
              clear hbq7
              by_cases c8 : bq7 = true
              · subst c8
                have H1 : (if 0 ≤ a1 then (if a1 < (l0.length : Int) then (lamplighterref22_first.j1 k1 l0 a1 x5_1 (decide (((rd_T37 l0 x5_1).f1) < ((rd_T37 l0 a1).f0)))) else (none)) else (none)) = some r := by rw [if_pos rfl] at H; exact H
                clear H
                have H := H1
                clear H1
                by_cases c9 : 0 ≤ a1
                · rw [if_pos c9] at H
                  have c9b0 : decide (0 ≤ a1) = true := decide_eq_true c9
                  clear c9
                  by_cases c10 : a1 < (l0.length : Int)
                  · rw [if_pos c10] at H
                    have c10b0 : decide (a1 < (l0.length : Int)) = true := decide_eq_true c10
                    clear c10
                    have H' := Aside0.mk H
                    clear H
                    have p106 : 0 ≤ (x5_1 : Int) := of_decide_eq_true (by first | (with_reducible assumption) | assumption)
                    have q106 : x5_1 < (l0.length : Int) := of_decide_eq_true (by first | (with_reducible assumption) | assumption)
                    obtain ⟨ad106, e106, hx106_0, hx106_1, hx106_2, hx106_3, hx106_4, hx106_5⟩ := at_T37 HR0.out x5_1 p106 q106
                    (try rw [← Nbq7.out] at hx106_4)
                    (try rw [← Nbq7.out] at hx106_5)
                    cases e106
                    replace p106 := eq_true p106
                    replace q106 := eq_true q106
                    have p107 : 0 ≤ (x5_1 : Int) := of_decide_eq_true (by first | (with_reducible assumption) | assumption)
                    have q107 : x5_1 < (l0.length : Int) := of_decide_eq_true (by first | (with_reducible assumption) | assumption)
                    obtain ⟨ad107, e107, hx107_0, hx107_1, hx107_2, hx107_3, hx107_4, hx107_5⟩ := at_T37 HR0.out x5_1 p107 q107
                    (try rw [← Nbq7.out] at hx107_4)
                    (try rw [← Nbq7.out] at hx107_5)
                    obtain rfl : ad106 = ad107 := (by injection e107)
                    replace p107 := eq_true p107
                    replace q107 := eq_true q107
                    have p108 : 0 ≤ (a1 : Int) := of_decide_eq_true (by first | (with_reducible assumption) | assumption)
                    have q108 : a1 < (l0.length : Int) := of_decide_eq_true (by first | (with_reducible assumption) | assumption)
                    obtain ⟨ad108, e108, hx108_0, hx108_1, hx108_2, hx108_3, hx108_4, hx108_5⟩ := at_T37 HR0.out a1 p108 q108
                    (try rw [← Nbq7.out] at hx108_4)
                    (try rw [← Nbq7.out] at hx108_5)
                    obtain rfl : ad106 = ad108 := (by injection e108)
                    replace p108 := eq_true p108
                    replace q108 := eq_true q108
                    go_wp2
                    repeat (go_quiet (fail); try go_wp2)
                    go_meet
                    case rel => exact ⟨_, (decide (((rd_T37 l0 x5_1).f1) < ((rd_T37 l0 a1).f0))), (by first | rfl | (simp; done) | (simp [*]; done)), H', ⟨by have := HK1.out; first | omega | exact Nat.le_refl _⟩, by repeat (first | exact Drawn0.refl _ | apply Drawn0.step)⟩
                  · rw [if_neg c10] at H
                    exact absurd H (by simp)
                · rw [if_neg c9] at H
                  exact absurd H (by simp)
              · replace c8 := Bool.eq_false_iff.mpr c8
                subst c8
                have H1 : (lamplighterref22_first.j1 k1 l0 a1 x5_1 false) = some r := by rw [if_neg (show ¬ (false = true) by decide)] at H; exact H
                clear H
                have H := H1
                clear H1
                have H' := Aside0.mk H
                clear H
                have p106 : 0 ≤ (x5_1 : Int) := of_decide_eq_true (by first | (with_reducible assumption) | assumption)
                have q106 : x5_1 < (l0.length : Int) := of_decide_eq_true (by first | (with_reducible assumption) | assumption)
                obtain ⟨ad106, e106, hx106_0, hx106_1, hx106_2, hx106_3, hx106_4, hx106_5⟩ := at_T37 HR0.out x5_1 p106 q106
                (try rw [← Nbq7.out] at hx106_4)
                (try rw [← Nbq7.out] at hx106_5)
                cases e106
                replace p106 := eq_true p106
                replace q106 := eq_true q106
                go_wp2
                repeat (go_quiet (fail); try go_wp2)
                go_meet
                case rel => exact ⟨_, (false), (by first | rfl | (simp; done) | (simp [*]; done)), H', ⟨by have := HK1.out; first | omega | exact Nat.le_refl _⟩, by repeat (first | exact Drawn0.refl _ | apply Drawn0.step)⟩
            · rw [if_neg c6] at H
              exact absurd H (by simp)
        case rest =>
          clear HC4
          try clear c1
          try clear p1
          try clear q1
          try clear hx1
          try clear c2
          try clear p2
          try clear c3
          try clear c3b0
          try clear c5
          try clear c5b0
          try clear c5b1
          try clear c6
          try clear c6b0
          try clear q7
          try clear c8
          try clear c9
          try clear c9b0
          try clear c10
          try clear c10b0
          try clear p10
          try clear q10
          try clear hx10
          try clear hx106_0
          try clear hx106_1
          try clear hx106_2
          try clear hx106_3
          try clear hx106_4
          try clear hx106_5
          try clear hx107_0
          try clear hx107_1
          try clear hx107_2
          try clear hx107_3
          try clear hx107_4
          try clear hx107_5
          try clear hx108_0
          try clear hx108_1
          try clear hx108_2
          try clear hx108_3
          try clear hx108_4
          try clear hx108_5
          try clear p106
          try clear p107
          try clear p108
          try clear p2
          try clear q106
          try clear q107
          try clear q108
          obtain ⟨kq, x34_3, rfl, HA, HJ3, ⟨mc3, rfl⟩⟩ := hcut
          cases kq with
          | zero => exact absurd HA.out (by simp [lamplighterref22_first.j1])
          | succ kj3 =>
            have H := HA.out
            clear HA
            simp only [lamplighterref22_first.j1] at H
            by_cases c11 : x34_3 = true
            · subst c11
              have H1 : (some false) = some r := by rw [if_pos rfl] at H; exact H
              clear H
              have H := H1
              clear H1
              obtain rfl := Option.some.inj H
              go_wp2
              repeat (go_quiet (fail); try go_wp2)
              go_ret
              exact ⟨by first | rfl | (simp; done) | (simp [*]; done), by repeat (first | exact Drawn0.refl _ | apply Drawn0.step)⟩
            · replace c11 := Bool.eq_false_iff.mpr c11
              subst c11
              have H1 : (lamplighterref22_first.l0 kj3 l0 a1 (wrap64 (x5_1 + 1))) = some r := by rw [if_neg (show ¬ (false = true) by decide)] at H; exact H
              clear H
              have H := H1
              clear H1
              have H' := Aside0.mk H
              clear H
              go_wp2
              repeat (go_quiet (fail); try go_wp2)
              go_roundg kj3
              case measure => have := HK1.out; have := HJ3.out; omega
              case rel => exact ⟨(wrap64 (x5_1 + 1)), (by first | rfl | (simp; done) | (simp [*]; done)), H', ⟨by have := HK1.out; have := HJ3.out; omega⟩, by repeat (first | exact Drawn0.refl _ | apply Drawn0.step)⟩
      · rw [if_neg c3] at H
        have c3b0 : decide (x5_1 < (l0.length : Int)) = false := decide_eq_false c3
        clear c3
        obtain rfl := Option.some.inj H
        go_wp2
        repeat (go_quiet (fail); try go_wp2)
        go_ret
        exact ⟨by first | rfl | (simp; done) | (simp [*]; done), by repeat (first | exact Drawn0.refl _ | apply Drawn0.step)⟩

/-! ### lamplighterref22_fits: function 24 -/
def lamplighterref22_fits.f (a0_0 : Int) (a0_1 : Int) (a0_2 : Int) (a0_3 : ByteArray) (a0_4 : Bool) (a0_5 : Bool) (a1 : ByteArray) (a2 : Bool) : Option (Bool) := if a0_5 = true then (if (a0_4 == a2) = true then (if a0_2 = 2 then (if a2 = true then (some (a0_3.toList == a1.toList)) else (some true)) else (some true)) else (some false)) else (some true)
set_option maxHeartbeats 8000000 in
set_option maxRecDepth 100000 in
theorem lamplighterref22_fits.calls (a0_0 : Int) (a0_1 : Int) (a0_2 : Int) (a0_3 : ByteArray) (a0_4 : Bool) (a0_5 : Bool) (a1 : ByteArray) (a2 : Bool) (r : Bool) (w : World) (h : lamplighterref22_fits.f a0_0 a0_1 a0_2 a0_3 a0_4 a0_5 a1 a2 = some r) :
    Calls Try.prog 24 #[.agg #[.int .i64 a0_0, .int .i64 a0_1, .int .i64 a0_2, .string a0_3, .bool a0_4, .bool a0_5], .string a1, .bool a2] w fun e w' => e = .returned (.bool r) ∧ Below w.heap.size w w' := by
  have hu37 := Try.underlying37
  have HB := Aside0.mk (Below.refl w.heap.size w)
  have H : (if a0_5 = true then (if (a0_4 == a2) = true then (if a0_2 = 2 then (if a2 = true then (some (a0_3.toList == a1.toList)) else (some true)) else (some true)) else (some false)) else (some true)) = some r := h
  clear h
  by_cases c4 : a0_5 = true
  · subst c4
    have H1 : (if (a0_4 == a2) = true then (if a0_2 = 2 then (if a2 = true then (some (a0_3.toList == a1.toList)) else (some true)) else (some true)) else (some false)) = some r := by rw [if_pos rfl] at H; exact H
    clear H
    have H := H1
    clear H1
    by_cases c5 : (a0_4 == a2) = true
    · rw [if_pos c5] at H
      have c5b0 : (a0_4 == a2) = true := c5
      (try (have c5b1 : decide (a0_4 = a2) = true := by simpa using c5))
      (try (have c5b2 : (a0_4 == a2) = true := by simpa using c5))
      clear c5
      by_cases c6 : a0_2 = 2
      · rw [if_pos c6] at H
        have c6b0 : (a0_2 == 2) = true := beq_iff_eq.mpr c6
        have c6b1 : (a0_2 != 2) = false := bne_eq_false_iff_eq.mpr c6
        clear c6
        by_cases c7 : a2 = true
        · subst c7
          have H1 : (some (a0_3.toList == a1.toList)) = some r := by rw [if_pos rfl] at H; exact H
          clear H
          have H := H1
          clear H1
          obtain rfl := Option.some.inj H
          go_enter Try.func24, Try.ntmps24
          go_wp2_with (first | ((with_reducible refine gate_dst (N := 3) rfl ?_); refine box_event ?hg (N := 3) ?hd (cs := #[.int .i64 a0_0, .int .i64 a0_1, .int .i64 a0_2, .string a0_3, .bool a0_4, .bool true]) (t := 37) ?hr ?_; (case hd => rfl); (case hg => rfl); (case hr => first | (go_simp; done) | (go_simp; rfl)); intro gb109 hg w8 hbox hb; have n0_ := Aside0.mk (below_step (by repeat (first | (with_reducible first | exact HB.out | apply below_alloc | apply pw_below_drewN | apply below_drew1) | exact HB.out)) hb); have n1_ := Aside0.mk (hbox); have n2_ := Aside0.mk ((by rw [hg]; exact (below_size (by repeat (first | (with_reducible first | exact HB.out | apply below_alloc | apply pw_below_drewN | apply below_drew1) | exact HB.out))) : w.heap.size ≤ gb109)); have n3_ := Aside0.mk ((by rw [hg]; exact (below_size (by repeat (first | (with_reducible first | exact HB.out | apply below_alloc | apply pw_below_drewN | apply below_drew1) | exact HB.out))) : w.heap.size ≤ gb109)); clear HB; have HB := n0_; have BK109 := n1_; have GW109 := n2_; have GE109 := n3_; clear n0_ n1_ n2_ n3_; clear hb hbox hg; have hcz9_0 : w8.cell? ⟨gb109, 0, none⟩ = some (.int .i64 a0_0) := (blk_cell BK109.out 0).trans rfl; have hcz9_1 : w8.cell? ⟨gb109, 1, none⟩ = some (.int .i64 a0_1) := (blk_cell BK109.out 1).trans rfl; have hcz9_2 : w8.cell? ⟨gb109, 2, none⟩ = some (.int .i64 a0_2) := (blk_cell BK109.out 2).trans rfl; have hcz9_3 : w8.cell? ⟨gb109, 3, none⟩ = some (.string a0_3) := (blk_cell BK109.out 3).trans rfl; have hcz9_4 : w8.cell? ⟨gb109, 4, none⟩ = some (.bool a0_4) := (blk_cell BK109.out 4).trans rfl; have hcz9_5 : w8.cell? ⟨gb109, 5, none⟩ = some (.bool true) := (blk_cell BK109.out 5).trans rfl; have hfz9_0 := blk_frozen BK109.out 0; have hfz9_1 := blk_frozen BK109.out 1; have hfz9_2 := blk_frozen BK109.out 2; have hfz9_3 := blk_frozen BK109.out 3; have hfz9_4 := blk_frozen BK109.out 4; have hfz9_5 := blk_frozen BK109.out 5))
          go_ret
          exact ⟨by first | rfl | (simp [errW_none, errW_some] <;> rfl) | (simp [*, errW_none, errW_some] <;> rfl), by repeat (first | (with_reducible first | exact HB.out | apply below_alloc | apply pw_below_drewN | apply below_drew1 | refine below_set ?_ GE109.out) | exact HB.out)⟩
        · replace c7 := Bool.eq_false_iff.mpr c7
          subst c7
          have H1 : (some true) = some r := by rw [if_neg (show ¬ (false = true) by decide)] at H; exact H
          clear H
          have H := H1
          clear H1
          obtain rfl := Option.some.inj H
          go_enter Try.func24, Try.ntmps24
          go_wp2_with (first | ((with_reducible refine gate_dst (N := 3) rfl ?_); refine box_event ?hg (N := 3) ?hd (cs := #[.int .i64 a0_0, .int .i64 a0_1, .int .i64 a0_2, .string a0_3, .bool a0_4, .bool true]) (t := 37) ?hr ?_; (case hd => rfl); (case hg => rfl); (case hr => first | (go_simp; done) | (go_simp; rfl)); intro gb109 hg w10 hbox hb; have n0_ := Aside0.mk (below_step (by repeat (first | (with_reducible first | exact HB.out | apply below_alloc | apply pw_below_drewN | apply below_drew1) | exact HB.out)) hb); have n1_ := Aside0.mk (hbox); have n2_ := Aside0.mk ((by rw [hg]; exact (below_size (by repeat (first | (with_reducible first | exact HB.out | apply below_alloc | apply pw_below_drewN | apply below_drew1) | exact HB.out))) : w.heap.size ≤ gb109)); have n3_ := Aside0.mk ((by rw [hg]; exact (below_size (by repeat (first | (with_reducible first | exact HB.out | apply below_alloc | apply pw_below_drewN | apply below_drew1) | exact HB.out))) : w.heap.size ≤ gb109)); clear HB; have HB := n0_; have BK109 := n1_; have GW109 := n2_; have GE109 := n3_; clear n0_ n1_ n2_ n3_; clear hb hbox hg; have hcz11_0 : w10.cell? ⟨gb109, 0, none⟩ = some (.int .i64 a0_0) := (blk_cell BK109.out 0).trans rfl; have hcz11_1 : w10.cell? ⟨gb109, 1, none⟩ = some (.int .i64 a0_1) := (blk_cell BK109.out 1).trans rfl; have hcz11_2 : w10.cell? ⟨gb109, 2, none⟩ = some (.int .i64 a0_2) := (blk_cell BK109.out 2).trans rfl; have hcz11_3 : w10.cell? ⟨gb109, 3, none⟩ = some (.string a0_3) := (blk_cell BK109.out 3).trans rfl; have hcz11_4 : w10.cell? ⟨gb109, 4, none⟩ = some (.bool a0_4) := (blk_cell BK109.out 4).trans rfl; have hcz11_5 : w10.cell? ⟨gb109, 5, none⟩ = some (.bool true) := (blk_cell BK109.out 5).trans rfl; have hfz11_0 := blk_frozen BK109.out 0; have hfz11_1 := blk_frozen BK109.out 1; have hfz11_2 := blk_frozen BK109.out 2; have hfz11_3 := blk_frozen BK109.out 3; have hfz11_4 := blk_frozen BK109.out 4; have hfz11_5 := blk_frozen BK109.out 5))
          go_ret
          exact ⟨by first | rfl | (simp [errW_none, errW_some] <;> rfl) | (simp [*, errW_none, errW_some] <;> rfl), by repeat (first | (with_reducible first | exact HB.out | apply below_alloc | apply pw_below_drewN | apply below_drew1 | refine below_set ?_ GE109.out) | exact HB.out)⟩
      · rw [if_neg c6] at H
        have c6b0 : (a0_2 == 2) = false := beq_eq_false_iff_ne.mpr c6
        have c6b1 : (a0_2 != 2) = true := bne_iff_ne.mpr c6
        obtain rfl := Option.some.inj H
        go_enter Try.func24, Try.ntmps24
        go_wp2_with (first | ((with_reducible refine gate_dst (N := 3) rfl ?_); refine box_event ?hg (N := 3) ?hd (cs := #[.int .i64 a0_0, .int .i64 a0_1, .int .i64 a0_2, .string a0_3, .bool a0_4, .bool true]) (t := 37) ?hr ?_; (case hd => rfl); (case hg => rfl); (case hr => first | (go_simp; done) | (go_simp; rfl)); intro gb109 hg w12 hbox hb; have n0_ := Aside0.mk (below_step (by repeat (first | (with_reducible first | exact HB.out | apply below_alloc | apply pw_below_drewN | apply below_drew1) | exact HB.out)) hb); have n1_ := Aside0.mk (hbox); have n2_ := Aside0.mk ((by rw [hg]; exact (below_size (by repeat (first | (with_reducible first | exact HB.out | apply below_alloc | apply pw_below_drewN | apply below_drew1) | exact HB.out))) : w.heap.size ≤ gb109)); have n3_ := Aside0.mk ((by rw [hg]; exact (below_size (by repeat (first | (with_reducible first | exact HB.out | apply below_alloc | apply pw_below_drewN | apply below_drew1) | exact HB.out))) : w.heap.size ≤ gb109)); clear HB; have HB := n0_; have BK109 := n1_; have GW109 := n2_; have GE109 := n3_; clear n0_ n1_ n2_ n3_; clear hb hbox hg; have hcz13_0 : w12.cell? ⟨gb109, 0, none⟩ = some (.int .i64 a0_0) := (blk_cell BK109.out 0).trans rfl; have hcz13_1 : w12.cell? ⟨gb109, 1, none⟩ = some (.int .i64 a0_1) := (blk_cell BK109.out 1).trans rfl; have hcz13_2 : w12.cell? ⟨gb109, 2, none⟩ = some (.int .i64 a0_2) := (blk_cell BK109.out 2).trans rfl; have hcz13_3 : w12.cell? ⟨gb109, 3, none⟩ = some (.string a0_3) := (blk_cell BK109.out 3).trans rfl; have hcz13_4 : w12.cell? ⟨gb109, 4, none⟩ = some (.bool a0_4) := (blk_cell BK109.out 4).trans rfl; have hcz13_5 : w12.cell? ⟨gb109, 5, none⟩ = some (.bool true) := (blk_cell BK109.out 5).trans rfl; have hfz13_0 := blk_frozen BK109.out 0; have hfz13_1 := blk_frozen BK109.out 1; have hfz13_2 := blk_frozen BK109.out 2; have hfz13_3 := blk_frozen BK109.out 3; have hfz13_4 := blk_frozen BK109.out 4; have hfz13_5 := blk_frozen BK109.out 5))
        go_ret
        exact ⟨by first | rfl | (simp [errW_none, errW_some] <;> rfl) | (simp [*, errW_none, errW_some] <;> rfl), by repeat (first | (with_reducible first | exact HB.out | apply below_alloc | apply pw_below_drewN | apply below_drew1 | refine below_set ?_ GE109.out) | exact HB.out)⟩
    · rw [if_neg c5] at H
      have c5b0 : (a0_4 == a2) = false := by simpa using c5
      (try (have c5b1 : decide (a0_4 = a2) = false := by simpa using c5))
      (try (have c5b2 : (a0_4 == a2) = false := by simpa using c5))
      (try (have c5b3 : ¬ (a0_4 = a2) := by simpa using c5))
      clear c5
      obtain rfl := Option.some.inj H
      go_enter Try.func24, Try.ntmps24
      go_wp2_with (first | ((with_reducible refine gate_dst (N := 3) rfl ?_); refine box_event ?hg (N := 3) ?hd (cs := #[.int .i64 a0_0, .int .i64 a0_1, .int .i64 a0_2, .string a0_3, .bool a0_4, .bool true]) (t := 37) ?hr ?_; (case hd => rfl); (case hg => rfl); (case hr => first | (go_simp; done) | (go_simp; rfl)); intro gb109 hg w14 hbox hb; have n0_ := Aside0.mk (below_step (by repeat (first | (with_reducible first | exact HB.out | apply below_alloc | apply pw_below_drewN | apply below_drew1) | exact HB.out)) hb); have n1_ := Aside0.mk (hbox); have n2_ := Aside0.mk ((by rw [hg]; exact (below_size (by repeat (first | (with_reducible first | exact HB.out | apply below_alloc | apply pw_below_drewN | apply below_drew1) | exact HB.out))) : w.heap.size ≤ gb109)); have n3_ := Aside0.mk ((by rw [hg]; exact (below_size (by repeat (first | (with_reducible first | exact HB.out | apply below_alloc | apply pw_below_drewN | apply below_drew1) | exact HB.out))) : w.heap.size ≤ gb109)); clear HB; have HB := n0_; have BK109 := n1_; have GW109 := n2_; have GE109 := n3_; clear n0_ n1_ n2_ n3_; clear hb hbox hg; have hcz15_0 : w14.cell? ⟨gb109, 0, none⟩ = some (.int .i64 a0_0) := (blk_cell BK109.out 0).trans rfl; have hcz15_1 : w14.cell? ⟨gb109, 1, none⟩ = some (.int .i64 a0_1) := (blk_cell BK109.out 1).trans rfl; have hcz15_2 : w14.cell? ⟨gb109, 2, none⟩ = some (.int .i64 a0_2) := (blk_cell BK109.out 2).trans rfl; have hcz15_3 : w14.cell? ⟨gb109, 3, none⟩ = some (.string a0_3) := (blk_cell BK109.out 3).trans rfl; have hcz15_4 : w14.cell? ⟨gb109, 4, none⟩ = some (.bool a0_4) := (blk_cell BK109.out 4).trans rfl; have hcz15_5 : w14.cell? ⟨gb109, 5, none⟩ = some (.bool true) := (blk_cell BK109.out 5).trans rfl; have hfz15_0 := blk_frozen BK109.out 0; have hfz15_1 := blk_frozen BK109.out 1; have hfz15_2 := blk_frozen BK109.out 2; have hfz15_3 := blk_frozen BK109.out 3; have hfz15_4 := blk_frozen BK109.out 4; have hfz15_5 := blk_frozen BK109.out 5))
      go_ret
      exact ⟨by first | rfl | (simp [errW_none, errW_some] <;> rfl) | (simp [*, errW_none, errW_some] <;> rfl), by repeat (first | (with_reducible first | exact HB.out | apply below_alloc | apply pw_below_drewN | apply below_drew1 | refine below_set ?_ GE109.out) | exact HB.out)⟩
  · replace c4 := Bool.eq_false_iff.mpr c4
    subst c4
    have H1 : (some true) = some r := by rw [if_neg (show ¬ (false = true) by decide)] at H; exact H
    clear H
    have H := H1
    clear H1
    obtain rfl := Option.some.inj H
    go_enter Try.func24, Try.ntmps24
    go_wp2_with (first | ((with_reducible refine gate_dst (N := 3) rfl ?_); refine box_event ?hg (N := 3) ?hd (cs := #[.int .i64 a0_0, .int .i64 a0_1, .int .i64 a0_2, .string a0_3, .bool a0_4, .bool false]) (t := 37) ?hr ?_; (case hd => rfl); (case hg => rfl); (case hr => first | (go_simp; done) | (go_simp; rfl)); intro gb109 hg w16 hbox hb; have n0_ := Aside0.mk (below_step (by repeat (first | (with_reducible first | exact HB.out | apply below_alloc | apply pw_below_drewN | apply below_drew1) | exact HB.out)) hb); have n1_ := Aside0.mk (hbox); have n2_ := Aside0.mk ((by rw [hg]; exact (below_size (by repeat (first | (with_reducible first | exact HB.out | apply below_alloc | apply pw_below_drewN | apply below_drew1) | exact HB.out))) : w.heap.size ≤ gb109)); have n3_ := Aside0.mk ((by rw [hg]; exact (below_size (by repeat (first | (with_reducible first | exact HB.out | apply below_alloc | apply pw_below_drewN | apply below_drew1) | exact HB.out))) : w.heap.size ≤ gb109)); clear HB; have HB := n0_; have BK109 := n1_; have GW109 := n2_; have GE109 := n3_; clear n0_ n1_ n2_ n3_; clear hb hbox hg; have hcz17_0 : w16.cell? ⟨gb109, 0, none⟩ = some (.int .i64 a0_0) := (blk_cell BK109.out 0).trans rfl; have hcz17_1 : w16.cell? ⟨gb109, 1, none⟩ = some (.int .i64 a0_1) := (blk_cell BK109.out 1).trans rfl; have hcz17_2 : w16.cell? ⟨gb109, 2, none⟩ = some (.int .i64 a0_2) := (blk_cell BK109.out 2).trans rfl; have hcz17_3 : w16.cell? ⟨gb109, 3, none⟩ = some (.string a0_3) := (blk_cell BK109.out 3).trans rfl; have hcz17_4 : w16.cell? ⟨gb109, 4, none⟩ = some (.bool a0_4) := (blk_cell BK109.out 4).trans rfl; have hcz17_5 : w16.cell? ⟨gb109, 5, none⟩ = some (.bool false) := (blk_cell BK109.out 5).trans rfl; have hfz17_0 := blk_frozen BK109.out 0; have hfz17_1 := blk_frozen BK109.out 1; have hfz17_2 := blk_frozen BK109.out 2; have hfz17_3 := blk_frozen BK109.out 3; have hfz17_4 := blk_frozen BK109.out 4; have hfz17_5 := blk_frozen BK109.out 5))
    go_ret
    exact ⟨by first | rfl | (simp [errW_none, errW_some] <;> rfl) | (simp [*, errW_none, errW_some] <;> rfl), by repeat (first | (with_reducible first | exact HB.out | apply below_alloc | apply pw_below_drewN | apply below_drew1 | refine below_set ?_ GE109.out) | exact HB.out)⟩

end
end Go.Proofs.Ytdblecmelmeibaa.PL
