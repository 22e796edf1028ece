/- Written by this session's own program (hprint.py) with the help of the kit's print. Lean checks it. -/
import Derived.Test.YtliaemoomhfcdaaMW
import Derived.Test.YtliaemoomhfcdaaLOx0
import Derived.Test.YtliaemoomhfcdaaGivenLC
namespace Go.Proofs.Ytliaemoomhfcdaa.LO
open Go.Proofs.Ytliaemoomhfcdaa.LC Go.Proofs.Ytliaemoomhfcdaa.AW Go.Proofs.Ytliaemoomhfcdaa.ID   -- OPENED
open Go.RowKit Go.Proofs.YtliaemoomhfcdaaW.PrintWords Go.Proofs.YtliaemoomhfcdaaW.PrintLast Go.Proofs.YtliaemoomhfcdaaW.PrintMore
attribute [local go_sem] max2_int min2_int max_two min_two max_three min_three max_four min_four   -- for this text's walks alone
set_option linter.unusedVariables false
set_option linter.unusedSimpArgs false
noncomputable section

/-! ### lamplighterlaw15_IndexLows: function 5 -/
mutual
def lamplighterlaw15_IndexLows.j0 : Nat → List Int → Bool → Bool → Option (Bool)
  | 0, _, _, _ => none
  | k + 1, x0, x3, x19 => if x19 = true then (some x3) else ((arena_Leaves.f x0).bind fun bt103 => (lamplighterlaw15_IndexLows.l0 k x0 x3 bt103.1 0))
def lamplighterlaw15_IndexLows.l0 : Nat → List Int → Bool → List Int → Int → Option (Bool)
  | 0, _, _, _, _ => none
  | k + 1, x0, x3, x4, x6 => if x6 < (x4.length : Int) then (if 0 ≤ x6 then ((arena_Low.f x0 (rd x4 x6)).bind fun bt108 => ((index_Find.f x0 1 bt108.1 0).bind fun bt110 => (if bt108.2 = 0 then (if bt110.2 = 0 then (if bt110.1 = (rd x4 x6) then (lamplighterlaw15_IndexLows.l0 k x0 x3 x4 (wrap64 (x6 + 1))) else (none)) else (none)) else (none)))) else (none)) else (some x3)
end
def lamplighterlaw15_IndexLows.f (k : Nat) (l0 : List Int) : Option (Bool) := (lamplighterlaw15_awake.f).bind fun t101 => (if (l0.length : Int) > 1000 then (lamplighterlaw15_IndexLows.j0 k l0 t101 true) else ((arena_Check.f l0).bind fun t102 => (lamplighterlaw15_IndexLows.j0 k l0 t101 (t102 != 0))))
theorem lamplighterlaw15_IndexLows.mono_l : ∀ k, (∀ y0 y1 y2, LeO (lamplighterlaw15_IndexLows.j0 k y0 y1 y2) (lamplighterlaw15_IndexLows.j0 (k + 1) y0 y1 y2)) ∧ (∀ y0 y1 y2 y3, LeO (lamplighterlaw15_IndexLows.l0 k y0 y1 y2 y3) (lamplighterlaw15_IndexLows.l0 (k + 1) y0 y1 y2 y3))
  | 0 => ⟨fun _ _ _ r h => by simp [lamplighterlaw15_IndexLows.j0] at h, fun _ _ _ _ r h => by simp [lamplighterlaw15_IndexLows.l0] at h⟩
  | k + 1 => by
    obtain ⟨ih0, ih1⟩ := lamplighterlaw15_IndexLows.mono_l k
    refine ⟨?_, ?_⟩
    · intro y0 y1 y2
      unfold lamplighterlaw15_IndexLows.j0
      repeat' first
      | (with_reducible exact ih0 _ _ _)
      | (with_reducible exact ih1 _ _ _ _)
      | (with_reducible exact LeO.refl _)
      | (with_reducible exact LeO.none _)
      | (with_reducible refine LeO.ite ?_ ?_)
      | (with_reducible refine LeO.bind ?_ (fun _ => ?_))
      | exact ih0 _ _ _
      | exact ih1 _ _ _ _
      | exact LeO.none _
      | refine LeO.ite ?_ ?_
      | refine LeO.bind ?_ (fun _ => ?_)
    · intro y0 y1 y2 y3
      unfold lamplighterlaw15_IndexLows.l0
      repeat' first
      | (with_reducible exact ih0 _ _ _)
      | (with_reducible exact ih1 _ _ _ _)
      | (with_reducible exact LeO.refl _)
      | (with_reducible exact LeO.none _)
      | (with_reducible refine LeO.ite ?_ ?_)
      | (with_reducible refine LeO.bind ?_ (fun _ => ?_))
      | exact ih0 _ _ _
      | exact ih1 _ _ _ _
      | exact LeO.none _
      | refine LeO.ite ?_ ?_
      | refine LeO.bind ?_ (fun _ => ?_)
theorem lamplighterlaw15_IndexLows.mono : ∀ a0 k, LeO (lamplighterlaw15_IndexLows.f k a0) (lamplighterlaw15_IndexLows.f (k + 1) a0) := by
  intro a0 k
  obtain ⟨ih0, ih1⟩ := lamplighterlaw15_IndexLows.mono_l k
  unfold lamplighterlaw15_IndexLows.f
  repeat' first
      | (with_reducible exact ih0 _ _ _)
      | (with_reducible exact ih1 _ _ _ _)
      | (with_reducible exact LeO.refl _)
      | (with_reducible exact LeO.none _)
      | (with_reducible refine LeO.ite ?_ ?_)
      | (with_reducible refine LeO.bind ?_ (fun _ => ?_))
      | exact ih0 _ _ _
      | exact ih1 _ _ _ _
      | exact LeO.none _
      | refine LeO.ite ?_ ?_
      | refine LeO.bind ?_ (fun _ => ?_)
set_option maxHeartbeats 8000000 in
set_option maxRecDepth 100000 in
theorem lamplighterlaw15_IndexLows.calls (k : Nat) (A0 : Option Addr) (c0 : Nat) (l0 : List Int) (r : Bool) (w : World) (hr0 : Kd.C (Kd.int .i64) w A0 l0.length l0) (hc0 : l0.length ≤ c0) (h : lamplighterlaw15_IndexLows.f k l0 = some r) :
    Calls Try.prog 5 #[.slice A0 l0.length c0] w fun e w' => e = .returned (.bool r) ∧ Below w.heap.size w w' := by
  have HR0 := Aside0.mk hr0
  have HC0 := Aside0.mk hc0
  clear hr0 hc0
  have HB := Aside0.mk (Below.refl w.heap.size w)
  have H : ((lamplighterlaw15_awake.f).bind fun t101 => (if (l0.length : Int) > 1000 then (lamplighterlaw15_IndexLows.j0 k l0 t101 true) else ((arena_Check.f l0).bind fun t102 => (lamplighterlaw15_IndexLows.j0 k l0 t101 (t102 != 0))))) = some r := h
  clear h
  replace H := Option.bind_eq_some_iff.mp H
  obtain ⟨t101, A20, H⟩ := H
  replace H : (if (l0.length : Int) > 1000 then (lamplighterlaw15_IndexLows.j0 k l0 t101 true) else ((arena_Check.f l0).bind fun t102 => (lamplighterlaw15_IndexLows.j0 k l0 t101 (t102 != 0)))) = some r := H
  have A2 := Aside0.mk A20
  clear A20
  have HC3 := Aside0.mk H
  clear H
  go_enter Try.func5, Try.ntmps5
  go_upto_region 2 with (first | ((with_reducible refine gate_callee (f := 14) rfl ?_); refine goesL_ (some 11) rfl rfl Try.func14 (by kernel_rfl) rfl #[] rfl (by (try simp only [List.map_toArray, List.map_cons, List.map_nil]); first | done | rfl | (simp only [List.length_drop, List.length_take]; rfl)) ?_; (with_reducible refine (lamplighterlaw15_awake.calls  t101 _ A2.out).mono ?_); rintro e w4 ⟨rfl, hb⟩; refine ⟨_, rfl, ?_⟩; have n0_ := Aside0.mk (below_step (by repeat (first | (with_reducible first | exact HB.out | apply below_alloc | apply pw_below_drewN | apply below_drew1) | exact HB.out)) hb); clear HB; have HB := n0_; clear n0_; (try clear hb); (try clear hb2); (try clear hk); (try clear hi)))
  (try simp only [Act.put, List.setIfInBounds_toArray, List.set_cons_zero, List.set_cons_succ])
  go_cut [19] (fun v19 wc => ∃ (kq : Nat) (x19_2 : Bool), v19 = .bool x19_2 ∧ Aside0 (lamplighterlaw15_IndexLows.j0 kq l0 t101 x19_2 = some r) ∧ Aside0 (kq ≤ k) ∧ Aside0 (Below w.heap.size w wc))
  case first =>
    have H := HC3.out
    clear HC3
    by_cases c5 : (l0.length : Int) > 1000
    · rw [if_pos c5] at H
      have c5b0 : decide (1000 < (l0.length : Int)) = true := decide_eq_true c5
      have c5b1 : decide (1000 < l0.length) = true := decide_eq_true (by omega)
      clear c5
      (first | rw [c5b0] | (simp only [i64_w, i32_w]; rw [c5b0]) | skip)
      have H' := Aside0.mk H
      clear H
      go_wp2
      go_meet
      case rel => exact ⟨_, (true), (by first | rfl | (simp; done) | (simp [*]; done)), H', ⟨by first | omega | exact Nat.le_refl _⟩, ⟨by repeat (first | (with_reducible first | exact HB.out | apply below_alloc | apply pw_below_drewN | apply below_drew1) | exact HB.out)⟩⟩
    · rw [if_neg c5] at H
      have c5b0 : decide (1000 < (l0.length : Int)) = false := decide_eq_false c5
      have c5b1 : decide (1000 < l0.length) = false := decide_eq_false (by omega)
      clear c5
      (first | rw [c5b0] | (simp only [i64_w, i32_w]; rw [c5b0]) | skip)
      replace H := Option.bind_eq_some_iff.mp H
      obtain ⟨t102, A60, H⟩ := H
      replace H : (lamplighterlaw15_IndexLows.j0 k l0 t101 (t102 != 0)) = some r := H
      have A6 := Aside0.mk A60
      clear A60
      have H' := Aside0.mk H
      clear H
      go_wp2_with (first | (go_at_call 23; (with_reducible refine (arena_Check.calls _ _ l0 t102 _ ?side1 ?side2 A6.out).mono ?_); (case side1 => repeat (first | exact (Kd.C_below HR0.out HB.out) | (with_reducible refine Kd.C_alloc ?_ _) | (with_reducible refine Kd.C_drewN ?_ _) | (with_reducible refine Kd.C_drew ?_))); (case side2 => exact HC0.out); rintro e w7 ⟨rfl, hb⟩; have n0_ := Aside0.mk (below_step (by repeat (first | (with_reducible first | exact HB.out | apply below_alloc | apply pw_below_drewN | apply below_drew1) | exact HB.out)) hb); clear HB; have HB := n0_; clear n0_; (try clear hb); (try clear hb2); (try clear hk); (try clear hi)))
      go_meet
      case rel => exact ⟨_, ((t102 != 0)), (by first | rfl | (simp; done) | (simp [*]; done)), H', ⟨by first | omega | exact Nat.le_refl _⟩, ⟨by repeat (first | (with_reducible first | exact HB.out | apply below_alloc | apply pw_below_drewN | apply below_drew1) | exact HB.out)⟩⟩
  case rest =>
    clear HC3
    try clear c1
    try clear p2
    try clear c5
    try clear c5b0
    try clear c5b1
    obtain ⟨kq, x19_2, rfl, HA, HJ2, HB⟩ := hcut
    cases kq with
    | zero => exact absurd HA.out (by simp [lamplighterlaw15_IndexLows.j0])
    | succ kj2 =>
      have H := HA.out
      clear HA
      simp only [lamplighterlaw15_IndexLows.j0] at H
      by_cases c8 : x19_2 = true
      · subst c8
        have H1 : (some t101) = some r := by rw [if_pos rfl] at H; exact H
        clear H
        have H := H1
        clear H1
        obtain rfl := Option.some.inj H
        go_wp2
        go_ret
        exact ⟨by first | rfl | (simp [errW_none, errW_some] <;> rfl) | (simp [*, errW_none, errW_some] <;> rfl), by repeat (first | (with_reducible first | exact HB.out | apply below_alloc | apply pw_below_drewN | apply below_drew1) | exact HB.out)⟩
      · replace c8 := Bool.eq_false_iff.mpr c8
        subst c8
        have H1 : ((arena_Leaves.f l0).bind fun bt103 => (lamplighterlaw15_IndexLows.l0 kj2 l0 t101 bt103.1 0)) = some r := by rw [if_neg (show ¬ (false = true) by decide)] at H; exact H
        clear H
        have H := H1
        clear H1
        replace H := Option.bind_eq_some_iff.mp H
        obtain ⟨⟨t103, t104⟩, A90, H⟩ := H
        replace H : (lamplighterlaw15_IndexLows.l0 kj2 l0 t101 t103 0) = some r := H
        have A9 := Aside0.mk A90
        clear A90
        have H' := Aside0.mk H
        clear H
        go_wp2_with (first | ((with_reducible refine gate_callee (f := 24) rfl ?_); refine goesL_ (some 23) rfl rfl Try.func24 (by kernel_rfl) rfl #[.slice A0 l0.length c0] rfl (by (try simp only [List.map_toArray, List.map_cons, List.map_nil]); first | done | rfl | (simp only [List.length_drop, List.length_take]; rfl)) ?_; (with_reducible refine (arena_Leaves.calls _ _ l0 t103 t104 _ ?side1 ?side2 A9.out).mono ?_); (case side1 => repeat (first | exact (Kd.C_below HR0.out HB.out) | (with_reducible refine Kd.C_alloc ?_ _) | (with_reducible refine Kd.C_drewN ?_ _) | (with_reducible refine Kd.C_drew ?_))); (case side2 => exact HC0.out); rintro e w10 ⟨v105, rfl, ho0, hb⟩; refine ⟨_, rfl, ?_⟩; have n0_ := Aside0.mk (Kd.R_lower ho0 (below_size (by repeat (first | (with_reducible first | exact HB.out | apply below_alloc | apply pw_below_drewN | apply below_drew1) | exact HB.out)))); have n1_ := Aside0.mk (below_step (by repeat (first | (with_reducible first | exact HB.out | apply below_alloc | apply pw_below_drewN | apply below_drew1) | exact HB.out)) hb); clear HB; have HO106 := n0_; have HB := n1_; clear n0_ n1_; (try clear hb); (try clear hb2); (try clear hk); (try clear hi); (try clear ho0)))
        go_loopg [6] kj2 (fun kq v6 w' => ∃ (x6_2 : Int), v6 = .int .i64 x6_2 ∧ Aside0 (lamplighterlaw15_IndexLows.l0 kq l0 t101 t103 x6_2 = some r) ∧ Aside0 (kq ≤ kj2) ∧ Aside0 (Kd.R (Kd.int .i64) 3 w' w.heap.size (fun _ => True) v105 t103) ∧ Aside0 (Below w.heap.size w w'))
        case atStart => exact ⟨(0), (by first | rfl | (simp; done) | (simp [*]; done)), H', ⟨Nat.le_refl _⟩, ⟨by (with_reducible repeat (first | apply Kd.R_alloc | apply Kd.R_drewN | apply Kd.R_drew)); exact HO106.out⟩, ⟨by repeat (first | (with_reducible first | exact HB.out | apply below_alloc | apply pw_below_drewN | apply below_drew1) | exact HB.out)⟩⟩
        case round =>
          clear H'
          try clear c1
          try clear c2
          try clear p2
          try clear c5
          try clear c5b0
          try clear c5b1
          try clear c8
          try clear p2
          obtain ⟨x6_2, rfl, HA, HK2, HO_4, HB⟩ := hrel
          cases gk with
          | zero => exact absurd HA.out (by simp [lamplighterlaw15_IndexLows.l0])
          | succ k2 =>
            have H := HA.out
            clear HA
            simp only [lamplighterlaw15_IndexLows.l0] at H
            by_cases c11 : x6_2 < (t103.length : Int)
            · rw [if_pos c11] at H
              have c11b0 : decide (x6_2 < (t103.length : Int)) = true := decide_eq_true c11
              clear c11
              by_cases c12 : 0 ≤ x6_2
              · rw [if_pos c12] at H
                have c12b0 : decide (0 ≤ x6_2) = true := decide_eq_true c12
                clear c12
                replace H := Option.bind_eq_some_iff.mp H
                obtain ⟨⟨t108, t109⟩, A130, H⟩ := H
                replace H : ((index_Find.f l0 1 t108 0).bind fun bt110 => (if t109 = 0 then (if bt110.2 = 0 then (if bt110.1 = (rd t103 x6_2) then (lamplighterlaw15_IndexLows.l0 k2 l0 t101 t103 (wrap64 (x6_2 + 1))) else (none)) else (none)) else (none))) = some r := H
                have A13 := Aside0.mk A130
                clear A130
                replace H := Option.bind_eq_some_iff.mp H
                obtain ⟨⟨t110, t111⟩, A140, H⟩ := H
                replace H : (if t109 = 0 then (if t111 = 0 then (if t110 = (rd t103 x6_2) then (lamplighterlaw15_IndexLows.l0 k2 l0 t101 t103 (wrap64 (x6_2 + 1))) else (none)) else (none)) else (none)) = some r := H
                have A14 := Aside0.mk A140
                clear A140
                by_cases c15 : t109 = 0
                · rw [if_pos c15] at H
                  have c15b0 : (t109 == 0) = true := beq_iff_eq.mpr c15
                  have c15b1 : (t109 != 0) = false := bne_eq_false_iff_eq.mpr c15
                  clear c15
                  by_cases c16 : t111 = 0
                  · rw [if_pos c16] at H
                    have c16b0 : (t111 == 0) = true := beq_iff_eq.mpr c16
                    have c16b1 : (t111 != 0) = false := bne_eq_false_iff_eq.mpr c16
                    clear c16
                    by_cases c17 : t110 = (rd t103 x6_2)
                    · rw [if_pos c17] at H
                      have c17b0 : (t110 == (rd t103 x6_2)) = true := beq_iff_eq.mpr c17
                      have c17b1 : (t110 != (rd t103 x6_2)) = false := bne_eq_false_iff_eq.mpr c17
                      clear c17
                      have H' := Aside0.mk H
                      clear H
                      obtain ⟨Ao18, co18, eo18⟩ := Kd.R_slice HO_4.out
                      subst eo18
                      have p107 : 0 ≤ (x6_2 : Int) := of_decide_eq_true (by first | (with_reducible assumption) | assumption)
                      have q107 : x6_2 < (t103.length : Int) := of_decide_eq_true (by first | (with_reducible assumption) | assumption)
                      obtain ⟨ad107, e107, hx107_0⟩ := Kd.at_int (Kd.R_reads' HO_4.out).2.2 x6_2 p107 q107
                      cases e107
                      replace p107 := eq_true p107
                      replace q107 := eq_true q107
                      go_wp2_with (first | ((with_reducible refine gate_callee (f := 22) rfl ?_); refine goesL_ (some 38) rfl rfl Try.func22 (by kernel_rfl) rfl #[.slice A0 l0.length c0, .int .i64 (rd t103 x6_2)] rfl (by (try simp only [List.map_toArray, List.map_cons, List.map_nil]); first | done | rfl | (simp only [List.length_drop, List.length_take]; rfl)) ?_; (with_reducible refine (arena_Low.calls _ _ l0 (rd t103 x6_2) t108 t109 _ ?side1 ?side2 A13.out).mono ?_); (case side1 => repeat (first | exact (Kd.C_below HR0.out HB.out) | (with_reducible refine Kd.C_alloc ?_ _) | (with_reducible refine Kd.C_drewN ?_ _) | (with_reducible refine Kd.C_drew ?_))); (case side2 => exact HC0.out); rintro e w19 ⟨rfl, hb⟩; refine ⟨_, rfl, ?_⟩; have n0_ := Aside0.mk (Kd.R_below (by (with_reducible repeat (first | apply Kd.R_alloc | apply Kd.R_drewN | apply Kd.R_drew)); exact HO_4.out) hb); have n1_ := Aside0.mk (below_step (by repeat (first | (with_reducible first | exact HB.out | apply below_alloc | apply pw_below_drewN | apply below_drew1) | exact HB.out)) hb); clear HO_4; clear HB; have HO_4 := n0_; have HB := n1_; clear n0_ n1_; (try clear hb); (try clear hb2); (try clear hk); (try clear hi)) | ((with_reducible refine gate_callee (f := 17) rfl ?_); refine goesL_ (some 44) rfl rfl Try.func17 (by kernel_rfl) rfl #[.slice A0 l0.length c0, .int .i64 1, .string t108, .int .i64 0] rfl (by (try simp only [List.map_toArray, List.map_cons, List.map_nil]); first | done | rfl | (simp only [List.length_drop, List.length_take]; rfl)) ?_; (with_reducible refine (index_Find.calls _ _ l0 1 t108 0 t110 t111 _ ?side1 ?side2 A14.out).mono ?_); (case side1 => repeat (first | exact (Kd.C_below HR0.out HB.out) | (with_reducible refine Kd.C_alloc ?_ _) | (with_reducible refine Kd.C_drewN ?_ _) | (with_reducible refine Kd.C_drew ?_))); (case side2 => exact HC0.out); rintro e w20 ⟨rfl, hb⟩; refine ⟨_, rfl, ?_⟩; have n0_ := Aside0.mk (Kd.R_below (by (with_reducible repeat (first | apply Kd.R_alloc | apply Kd.R_drewN | apply Kd.R_drew)); exact HO_4.out) hb); have n1_ := Aside0.mk (below_step (by repeat (first | (with_reducible first | exact HB.out | apply below_alloc | apply pw_below_drewN | apply below_drew1) | exact HB.out)) hb); clear HO_4; clear HB; have HO_4 := n0_; have HB := n1_; clear n0_ n1_; (try clear hb); (try clear hb2); (try clear hk); (try clear hi); have p112 : 0 ≤ (x6_2 : Int) := of_decide_eq_true (by first | (with_reducible assumption) | assumption); have q112 : x6_2 < (t103.length : Int) := of_decide_eq_true (by first | (with_reducible assumption) | assumption); obtain ⟨ad112, e112, hx112_0⟩ := Kd.at_int (Kd.R_reads' HO_4.out).2.2 x6_2 p112 q112; obtain rfl : ad107 = ad112 := (by injection e112); replace p112 := eq_true p112; replace q112 := eq_true q112))
                      go_roundg k2
                      case measure => have := HJ2.out; have := HK2.out; omega
                      case rel => exact ⟨(wrap64 (x6_2 + 1)), (by first | rfl | (simp; done) | (simp [*]; done)), H', ⟨by have := HJ2.out; have := HK2.out; omega⟩, ⟨by (with_reducible repeat (first | apply Kd.R_alloc | apply Kd.R_drewN | apply Kd.R_drew)); exact HO_4.out⟩, ⟨by repeat (first | (with_reducible first | exact HB.out | apply below_alloc | apply pw_below_drewN | apply below_drew1) | exact HB.out)⟩⟩
                    · rw [if_neg c17] at H
                      exact absurd H (by simp)
                  · rw [if_neg c16] at H
                    exact absurd H (by simp)
                · rw [if_neg c15] at H
                  exact absurd H (by simp)
              · rw [if_neg c12] at H
                exact absurd H (by simp)
            · rw [if_neg c11] at H
              have c11b0 : decide (x6_2 < (t103.length : Int)) = false := decide_eq_false c11
              clear c11
              obtain rfl := Option.some.inj H
              obtain ⟨Ao21, co21, eo21⟩ := Kd.R_slice HO_4.out
              subst eo21
              go_wp2
              go_ret
              exact ⟨by first | rfl | (simp [errW_none, errW_some] <;> rfl) | (simp [*, errW_none, errW_some] <;> rfl), by repeat (first | (with_reducible first | exact HB.out | apply below_alloc | apply pw_below_drewN | apply below_drew1) | exact HB.out)⟩

end
end Go.Proofs.Ytliaemoomhfcdaa.LO
