/- Written by this session's own program (hprint.py) with the help of the kit's print. Lean checks it. -/
import Derived.Test.YtliaemoomhfcdaaMV
import Derived.Test.YtliaemoomhfcdaaFIx0
import Derived.Test.YtliaemoomhfcdaaGivenFI
import Derived.Test.YtliaemoomhfcdaaMA
namespace Go.Proofs.Ytliaemoomhfcdaa.FI
attribute [local go_sem] Go.Proofs.Ytliaemoomhfcdaa.le_flip
open Go.Proofs.Ytliaemoomhfcdaa.FI Go.Proofs.Ytliaemoomhfcdaa.LC Go.Proofs.Ytliaemoomhfcdaa.AW Go.Proofs.Ytliaemoomhfcdaa.ID Go.Proofs.Ytliaemoomhfcdaa.NR   -- OPENED
open Go.RowKit Go.Proofs.YtliaemoomhfcdaaW.PrintWords Go.Proofs.YtliaemoomhfcdaaW.PrintLast Go.Proofs.YtliaemoomhfcdaaW.PrintMore
attribute [local go_sem] max2_int min2_int max_two min_two max_three min_three max_four min_four   -- for this text's walks alone
set_option linter.unusedVariables false
set_option linter.unusedSimpArgs false
noncomputable section

/-! ### lamplighterref10_In: function 25 -/
def lamplighterref10_In.l0 : Nat → List Int → Int → Int → Option (Bool)
  | 0, _, _, _ => none
  | k + 1, x0, x1, x5 => if x5 < (x0.length : Int) then (if 0 ≤ x5 then (if (rd x0 x5) = x1 then (some true) else (lamplighterref10_In.l0 k x0 x1 (wrap64 (x5 + 1)))) else (none)) else (some false)
def lamplighterref10_In.f (k : Nat) (l0 : List Int) (a1 : Int) : Option (Bool) := lamplighterref10_In.l0 k l0 a1 0
theorem lamplighterref10_In.mono_l : ∀ k, (∀ y0 y1 y2, LeO (lamplighterref10_In.l0 k y0 y1 y2) (lamplighterref10_In.l0 (k + 1) y0 y1 y2))
  | 0 => fun _ _ _ r h => by simp [lamplighterref10_In.l0] at h
  | k + 1 => by
    have ih0 := lamplighterref10_In.mono_l k
    · intro y0 y1 y2
      unfold lamplighterref10_In.l0
      repeat' first
      | (with_reducible exact ih0 _ _ _)
      | (with_reducible exact LeO.refl _)
      | (with_reducible exact LeO.none _)
      | (with_reducible refine LeO.ite ?_ ?_)
      | (with_reducible refine LeO.bind ?_ (fun _ => ?_))
      | exact ih0 _ _ _
      | exact LeO.none _
      | refine LeO.ite ?_ ?_
      | refine LeO.bind ?_ (fun _ => ?_)
theorem lamplighterref10_In.mono : ∀ a0 a1 k, LeO (lamplighterref10_In.f k a0 a1) (lamplighterref10_In.f (k + 1) a0 a1) := by
  intro a0 a1 k
  have ih0 := lamplighterref10_In.mono_l k
  unfold lamplighterref10_In.f
  repeat' first
      | (with_reducible exact ih0 _ _ _)
      | (with_reducible exact LeO.refl _)
      | (with_reducible exact LeO.none _)
      | (with_reducible refine LeO.ite ?_ ?_)
      | (with_reducible refine LeO.bind ?_ (fun _ => ?_))
      | exact ih0 _ _ _
      | exact LeO.none _
      | refine LeO.ite ?_ ?_
      | refine LeO.bind ?_ (fun _ => ?_)
set_option maxHeartbeats 8000000 in
set_option maxRecDepth 100000 in
theorem lamplighterref10_In.calls (k : Nat) (A0 : Option Addr) (c0 : Nat) (l0 : List Int) (a1 : Int) (r : Bool) (w : World) (hr0 : Kd.C (Kd.int .i64) w A0 l0.length l0) (hc0 : l0.length ≤ c0) (h : lamplighterref10_In.f k l0 a1 = some r) :
    Calls Try.prog 25 #[.slice A0 l0.length c0, .int .i64 a1] w fun e w' => e = .returned (.bool r) ∧ Drawn0 w w' := by
  have HR0 := Aside0.mk hr0
  have HC0 := Aside0.mk hc0
  clear hr0 hc0
  have H : (lamplighterref10_In.l0 k l0 a1 0) = some r := h
  clear h
  have H' := Aside0.mk H
  clear H
  go_enter Try.func25, Try.ntmps25
  go_wp2
  go_loopg [5] k (fun kq v5 w' => ∃ (x5_1 : Int), v5 = .int .i64 x5_1 ∧ Aside0 (lamplighterref10_In.l0 kq l0 a1 x5_1 = some r) ∧ Aside0 (kq ≤ k) ∧ Drawn0 w w')
  case atStart => exact ⟨(0), (by first | rfl | (simp; done) | (simp [*]; done)), H', ⟨Nat.le_refl _⟩, by repeat (first | exact Drawn0.refl _ | apply Drawn0.step)⟩
  case round =>
    clear H'
    try clear c2
    try clear p2
    obtain ⟨x5_1, rfl, HA, HK1, ⟨m1, rfl⟩⟩ := hrel
    cases gk with
    | zero => exact absurd HA.out (by simp [lamplighterref10_In.l0])
    | succ k1 =>
      have H := HA.out
      clear HA
      simp only [lamplighterref10_In.l0] at H
      by_cases c3 : x5_1 < (l0.length : Int)
      · rw [if_pos c3] at H
        have c3b0 : decide (x5_1 < (l0.length : Int)) = true := decide_eq_true c3
        clear c3
        by_cases c4 : 0 ≤ x5_1
        · rw [if_pos c4] at H
          have c4b0 : decide (0 ≤ x5_1) = true := decide_eq_true c4
          clear c4
          by_cases c5 : (rd l0 x5_1) = a1
          · rw [if_pos c5] at H
            have c5b0 : ((rd l0 x5_1) == a1) = true := beq_iff_eq.mpr c5
            have c5b1 : ((rd l0 x5_1) != a1) = false := bne_eq_false_iff_eq.mpr c5
            clear c5
            obtain rfl := Option.some.inj H
            have p101 : 0 ≤ (x5_1 : Int) := of_decide_eq_true (by first | (with_reducible assumption) | assumption)
            have q101 : x5_1 < (l0.length : Int) := of_decide_eq_true (by first | (with_reducible assumption) | assumption)
            obtain ⟨ad101, e101, hx101_0⟩ := Kd.at_int HR0.out x5_1 p101 q101
            cases e101
            replace p101 := eq_true p101
            replace q101 := eq_true q101
            go_wp2
            go_ret
            exact ⟨by first | rfl | (simp; done) | (simp [*]; done), by repeat (first | exact Drawn0.refl _ | apply Drawn0.step)⟩
          · rw [if_neg c5] at H
            have c5b0 : ((rd l0 x5_1) == a1) = false := beq_eq_false_iff_ne.mpr c5
            have c5b1 : ((rd l0 x5_1) != a1) = true := bne_iff_ne.mpr c5
            have H' := Aside0.mk H
            clear H
            have p101 : 0 ≤ (x5_1 : Int) := of_decide_eq_true (by first | (with_reducible assumption) | assumption)
            have q101 : x5_1 < (l0.length : Int) := of_decide_eq_true (by first | (with_reducible assumption) | assumption)
            obtain ⟨ad101, e101, hx101_0⟩ := Kd.at_int HR0.out x5_1 p101 q101
            cases e101
            replace p101 := eq_true p101
            replace q101 := eq_true q101
            go_wp2
            go_roundg k1
            case measure => have := HK1.out; omega
            case rel => exact ⟨(wrap64 (x5_1 + 1)), (by first | rfl | (simp; done) | (simp [*]; done)), H', ⟨by have := HK1.out; omega⟩, by repeat (first | exact Drawn0.refl _ | apply Drawn0.step)⟩
        · rw [if_neg c4] at H
          exact absurd H (by simp)
      · rw [if_neg c3] at H
        have c3b0 : decide (x5_1 < (l0.length : Int)) = false := decide_eq_false c3
        clear c3
        obtain rfl := Option.some.inj H
        go_wp2
        go_ret
        exact ⟨by first | rfl | (simp; done) | (simp [*]; done), by repeat (first | exact Drawn0.refl _ | apply Drawn0.step)⟩

/-! ### lamplighterlaw15_IndexFinds: function 6 -/
mutual
def lamplighterlaw15_IndexFinds.j0 : Nat → List Int → Int → ByteArray → Bool → Bool → Option (Bool)
  | 0, _, _, _, _, _ => none
  | k + 1, x0, x1, x2, x7, x41 => if x41 = true then (some x7) else ((arena_Leaves.f x0).bind fun bt104 => ((arena_Low.f x0 (wrap64 (x1))).bind fun bt108 => (if bt108.2 = 0 then ((lamplighterref10_In.f k bt104.1 (wrap64 (x1))).bind fun t110 => (if t110 = true then (lamplighterlaw15_IndexFinds.j1 k x0 x1 x2 x7 bt104.1 (Op.bytesLess x2.toList bt108.1.toList)) else (lamplighterlaw15_IndexFinds.j1 k x0 x1 x2 x7 bt104.1 true))) else (lamplighterlaw15_IndexFinds.j1 k x0 x1 x2 x7 bt104.1 true))))
def lamplighterlaw15_IndexFinds.j1 : Nat → List Int → Int → ByteArray → Bool → List Int → Bool → Option (Bool)
  | 0, _, _, _, _, _, _ => none
  | k + 1, x0, x1, x2, x7, x8, x68 => if x68 = true then (some x7) else ((index_Find.f x0 (wrap64 (x1)) x2 0).bind fun bt111 => ((node_Read.f k x0 bt111.1).bind fun bt113 => ((arena_Low.f x0 bt111.1).bind fun bt122 => ((arena_Low.f x0 bt113.2.2.1).bind fun bt124 => ((amap_Pairs.f x0).bind fun bt126 => ((amap_Own.f x0 bt111.1).bind fun bt130 => ((amap_Get.f bt126.1 x2).bind fun bt134 => ((amap_Get.f bt130.1 x2).bind fun bt136 => (if x7 = true then (if bt111.2 = 0 then (if bt113.2.2.2.2.2 = 0 then (if bt122.2 = 0 then (if bt130.2 = 0 then ((lamplighterref10_In.f k x8 bt111.1).bind fun t138 => (if t138 = true then (if ((Op.bytesLess x2.toList bt122.1.toList) = true) then (none) else (if bt113.2.2.1 = 0 then (if bt134.1.toList = bt136.1.toList then (some (bt134.2 == bt136.2)) else (none)) else (if (Op.bytesLess x2.toList bt124.1.toList) = true then (if bt134.1.toList = bt136.1.toList then (some (bt134.2 == bt136.2)) else (none)) else (none)))) else (none))) else (none)) else (none)) else (none)) else (none)) else (none))))))))))
end
def lamplighterlaw15_IndexFinds.f (k : Nat) (l0 : List Int) (a1 : Int) (a2 : ByteArray) : Option (Bool) := (lamplighterlaw15_awake.f).bind fun t102 => (if (l0.length : Int) > 1000 then (lamplighterlaw15_IndexFinds.j0 k l0 a1 a2 t102 true) else (if (a2.size : Int) > 100 then (lamplighterlaw15_IndexFinds.j0 k l0 a1 a2 t102 true) else ((arena_Check.f l0).bind fun t103 => (lamplighterlaw15_IndexFinds.j0 k l0 a1 a2 t102 (t103 != 0)))))
theorem lamplighterlaw15_IndexFinds.mono_l : ∀ k, (∀ y0 y1 y2 y3 y4, LeO (lamplighterlaw15_IndexFinds.j0 k y0 y1 y2 y3 y4) (lamplighterlaw15_IndexFinds.j0 (k + 1) y0 y1 y2 y3 y4)) ∧ (∀ y0 y1 y2 y3 y4 y5, LeO (lamplighterlaw15_IndexFinds.j1 k y0 y1 y2 y3 y4 y5) (lamplighterlaw15_IndexFinds.j1 (k + 1) y0 y1 y2 y3 y4 y5))
  | 0 => ⟨fun _ _ _ _ _ r h => by simp [lamplighterlaw15_IndexFinds.j0] at h, fun _ _ _ _ _ _ r h => by simp [lamplighterlaw15_IndexFinds.j1] at h⟩
  | k + 1 => by
    obtain ⟨ih0, ih1⟩ := lamplighterlaw15_IndexFinds.mono_l k
    refine ⟨?_, ?_⟩
    · intro y0 y1 y2 y3 y4
      unfold lamplighterlaw15_IndexFinds.j0
      repeat' first
      | (with_reducible exact ih0 _ _ _ _ _)
      | (with_reducible exact ih1 _ _ _ _ _ _)
      | (with_reducible exact lamplighterref10_In.mono _ _ _)
      | (with_reducible exact node_Read.mono _ _ _)
      | (with_reducible exact LeO.refl _)
      | (with_reducible exact LeO.none _)
      | (with_reducible refine LeO.ite ?_ ?_)
      | (with_reducible refine LeO.bind ?_ (fun _ => ?_))
      | exact ih0 _ _ _ _ _
      | exact ih1 _ _ _ _ _ _
      | exact lamplighterref10_In.mono _ _ _
      | exact node_Read.mono _ _ _
      | exact LeO.none _
      | refine LeO.ite ?_ ?_
      | refine LeO.bind ?_ (fun _ => ?_)
    · intro y0 y1 y2 y3 y4 y5
      unfold lamplighterlaw15_IndexFinds.j1
      repeat' first
      | (with_reducible exact ih0 _ _ _ _ _)
      | (with_reducible exact ih1 _ _ _ _ _ _)
      | (with_reducible exact lamplighterref10_In.mono _ _ _)
      | (with_reducible exact node_Read.mono _ _ _)
      | (with_reducible exact LeO.refl _)
      | (with_reducible exact LeO.none _)
      | (with_reducible refine LeO.ite ?_ ?_)
      | (with_reducible refine LeO.bind ?_ (fun _ => ?_))
      | exact ih0 _ _ _ _ _
      | exact ih1 _ _ _ _ _ _
      | exact lamplighterref10_In.mono _ _ _
      | exact node_Read.mono _ _ _
      | exact LeO.none _
      | refine LeO.ite ?_ ?_
      | refine LeO.bind ?_ (fun _ => ?_)
theorem lamplighterlaw15_IndexFinds.mono : ∀ a0 a1 a2 k, LeO (lamplighterlaw15_IndexFinds.f k a0 a1 a2) (lamplighterlaw15_IndexFinds.f (k + 1) a0 a1 a2) := by
  intro a0 a1 a2 k
  obtain ⟨ih0, ih1⟩ := lamplighterlaw15_IndexFinds.mono_l k
  unfold lamplighterlaw15_IndexFinds.f
  repeat' first
      | (with_reducible exact ih0 _ _ _ _ _)
      | (with_reducible exact ih1 _ _ _ _ _ _)
      | (with_reducible exact lamplighterref10_In.mono _ _ _)
      | (with_reducible exact node_Read.mono _ _ _)
      | (with_reducible exact LeO.refl _)
      | (with_reducible exact LeO.none _)
      | (with_reducible refine LeO.ite ?_ ?_)
      | (with_reducible refine LeO.bind ?_ (fun _ => ?_))
      | exact ih0 _ _ _ _ _
      | exact ih1 _ _ _ _ _ _
      | exact lamplighterref10_In.mono _ _ _
      | exact node_Read.mono _ _ _
      | exact LeO.none _
      | refine LeO.ite ?_ ?_
      | refine LeO.bind ?_ (fun _ => ?_)
set_option maxHeartbeats 8000000 in
set_option maxRecDepth 100000 in
theorem lamplighterlaw15_IndexFinds.calls (k : Nat) (A0 : Option Addr) (c0 : Nat) (l0 : List Int) (a1 : Int) (a2 : ByteArray) (r : Bool) (w : World) (hr0 : Kd.C (Kd.int .i64) w A0 l0.length l0) (hc0 : l0.length ≤ c0) (h : lamplighterlaw15_IndexFinds.f k l0 a1 a2 = some r) :
    Calls Try.prog 6 #[.slice A0 l0.length c0, .int .u8 a1, .string a2] w fun e w' => e = .returned (.bool r) ∧ Below w.heap.size w w' := by
  have hu24 := Try.underlying24
  have HR0 := Aside0.mk hr0
  have HC0 := Aside0.mk hc0
  clear hr0 hc0
  have HB := Aside0.mk (Below.refl w.heap.size w)
  have H : ((lamplighterlaw15_awake.f).bind fun t102 => (if (l0.length : Int) > 1000 then (lamplighterlaw15_IndexFinds.j0 k l0 a1 a2 t102 true) else (if (a2.size : Int) > 100 then (lamplighterlaw15_IndexFinds.j0 k l0 a1 a2 t102 true) else ((arena_Check.f l0).bind fun t103 => (lamplighterlaw15_IndexFinds.j0 k l0 a1 a2 t102 (t103 != 0)))))) = some r := h
  clear h
  replace H := Option.bind_eq_some_iff.mp H
  obtain ⟨t102, A40, H⟩ := H
  replace H : (if (l0.length : Int) > 1000 then (lamplighterlaw15_IndexFinds.j0 k l0 a1 a2 t102 true) else (if (a2.size : Int) > 100 then (lamplighterlaw15_IndexFinds.j0 k l0 a1 a2 t102 true) else ((arena_Check.f l0).bind fun t103 => (lamplighterlaw15_IndexFinds.j0 k l0 a1 a2 t102 (t103 != 0))))) = some r := H
  have A4 := Aside0.mk A40
  clear A40
  have HC5 := Aside0.mk H
  clear H
  go_enter Try.func6, Try.ntmps6
  go_upto_region 2 with (first | ((with_reducible refine gate_callee (f := 14) rfl ?_); refine goesL_ (some 28) rfl rfl Try.func14 (by kernel_rfl) rfl #[] rfl (by (try simp only [List.map_toArray, List.map_cons, List.map_nil]); first | done | rfl | (simp only [List.length_drop, List.length_take]; rfl)) ?_; (with_reducible refine (lamplighterlaw15_awake.calls  t102 _ A4.out).mono ?_); rintro e w6 ⟨rfl, hb⟩; refine ⟨_, rfl, ?_⟩; have n0_ := Aside0.mk (below_step (by repeat (first | (with_reducible first | exact HB.out | apply below_alloc | apply pw_below_drewN | apply below_drew1) | exact HB.out)) hb); clear HB; have HB := n0_; clear n0_; (try clear hb); (try clear hb2); (try clear hk); (try clear hi)))
  (try simp only [Act.put, List.setIfInBounds_toArray, List.set_cons_zero, List.set_cons_succ])
  go_cut [41] (fun v41 wc => ∃ (kq : Nat) (x41_4 : Bool), v41 = .bool x41_4 ∧ Aside0 (lamplighterlaw15_IndexFinds.j0 kq l0 a1 a2 t102 x41_4 = some r) ∧ Aside0 (kq ≤ k) ∧ Aside0 (Below w.heap.size w wc))
  case first =>
    have H := HC5.out
    clear HC5
    by_cases c7 : (l0.length : Int) > 1000
    · rw [if_pos c7] at H
      have c7b0 : decide (1000 < (l0.length : Int)) = true := decide_eq_true c7
      have c7b1 : decide (1000 < l0.length) = true := decide_eq_true (by omega)
      clear c7
      (first | rw [c7b0] | (simp only [i64_w, i32_w]; rw [c7b0]) | skip)
      have H' := Aside0.mk H
      clear H
      go_wp2
      go_meet
      case rel => exact ⟨_, (true), (by first | rfl | (simp; done) | (simp [*]; done)), H', ⟨by first | omega | exact Nat.le_refl _⟩, ⟨by repeat (first | (with_reducible first | exact HB.out | apply below_alloc | apply pw_below_drewN | apply below_drew1) | exact HB.out)⟩⟩
    · rw [if_neg c7] at H
      have c7b0 : decide (1000 < (l0.length : Int)) = false := decide_eq_false c7
      have c7b1 : decide (1000 < l0.length) = false := decide_eq_false (by omega)
      clear c7
      (first | rw [c7b0] | (simp only [i64_w, i32_w]; rw [c7b0]) | skip)
      by_cases c8 : (a2.size : Int) > 100
      · rw [if_pos c8] at H
        have c8b0 : decide (100 < (a2.size : Int)) = true := decide_eq_true c8
        have c8b1 : decide (100 < a2.size) = true := decide_eq_true (by omega)
        clear c8
        have H' := Aside0.mk H
        clear H
        go_wp2
        go_meet
        case rel => exact ⟨_, (true), (by first | rfl | (simp; done) | (simp [*]; done)), H', ⟨by first | omega | exact Nat.le_refl _⟩, ⟨by repeat (first | (with_reducible first | exact HB.out | apply below_alloc | apply pw_below_drewN | apply below_drew1) | exact HB.out)⟩⟩
      · rw [if_neg c8] at H
        have c8b0 : decide (100 < (a2.size : Int)) = false := decide_eq_false c8
        have c8b1 : decide (100 < a2.size) = false := decide_eq_false (by omega)
        clear c8
        replace H := Option.bind_eq_some_iff.mp H
        obtain ⟨t103, A90, H⟩ := H
        replace H : (lamplighterlaw15_IndexFinds.j0 k l0 a1 a2 t102 (t103 != 0)) = some r := H
        have A9 := Aside0.mk A90
        clear A90
        have H' := Aside0.mk H
        clear H
        go_wp2_with (first | (go_at_call 23; (with_reducible refine (arena_Check.calls _ _ l0 t103 _ ?side1 ?side2 A9.out).mono ?_); (case side1 => repeat (first | exact (Kd.C_below HR0.out HB.out) | (with_reducible refine Kd.C_alloc ?_ _) | (with_reducible refine Kd.C_drewN ?_ _) | (with_reducible refine Kd.C_drew ?_))); (case side2 => exact HC0.out); rintro e w10 ⟨rfl, hb⟩; have n0_ := Aside0.mk (below_step (by repeat (first | (with_reducible first | exact HB.out | apply below_alloc | apply pw_below_drewN | apply below_drew1) | exact HB.out)) hb); clear HB; have HB := n0_; clear n0_; (try clear hb); (try clear hb2); (try clear hk); (try clear hi)))
        go_meet
        case rel => exact ⟨_, ((t103 != 0)), (by first | rfl | (simp; done) | (simp [*]; done)), H', ⟨by first | omega | exact Nat.le_refl _⟩, ⟨by repeat (first | (with_reducible first | exact HB.out | apply below_alloc | apply pw_below_drewN | apply below_drew1) | exact HB.out)⟩⟩
  case rest =>
    clear HC5
    try clear c1
    try clear p2
    try clear c6
    try clear c7
    try clear c7b0
    try clear c7b1
    try clear c8
    try clear c8b0
    try clear c8b1
    obtain ⟨kq, x41_4, rfl, HA, HJ4, HB⟩ := hcut
    cases kq with
    | zero => exact absurd HA.out (by simp [lamplighterlaw15_IndexFinds.j0])
    | succ kj4 =>
      have H := HA.out
      clear HA
      simp only [lamplighterlaw15_IndexFinds.j0] at H
      by_cases c11 : x41_4 = true
      · subst c11
        have H1 : (some t102) = some r := by rw [if_pos rfl] at H; exact H
        clear H
        have H := H1
        clear H1
        obtain rfl := Option.some.inj H
        go_wp2
        go_ret
        exact ⟨by first | rfl | (simp [errW_none, errW_some] <;> rfl) | (simp [*, errW_none, errW_some] <;> rfl), by repeat (first | (with_reducible first | exact HB.out | apply below_alloc | apply pw_below_drewN | apply below_drew1) | exact HB.out)⟩
      · replace c11 := Bool.eq_false_iff.mpr c11
        subst c11
        have H1 : ((arena_Leaves.f l0).bind fun bt104 => ((arena_Low.f l0 (wrap64 (a1))).bind fun bt108 => (if bt108.2 = 0 then ((lamplighterref10_In.f kj4 bt104.1 (wrap64 (a1))).bind fun t110 => (if t110 = true then (lamplighterlaw15_IndexFinds.j1 kj4 l0 a1 a2 t102 bt104.1 (Op.bytesLess a2.toList bt108.1.toList)) else (lamplighterlaw15_IndexFinds.j1 kj4 l0 a1 a2 t102 bt104.1 true))) else (lamplighterlaw15_IndexFinds.j1 kj4 l0 a1 a2 t102 bt104.1 true)))) = some r := by rw [if_neg (show ¬ (false = true) by decide)] at H; exact H
        clear H
        have H := H1
        clear H1
        replace H := Option.bind_eq_some_iff.mp H
        obtain ⟨⟨t104, t105⟩, A120, H⟩ := H
        replace H : ((arena_Low.f l0 (wrap64 (a1))).bind fun bt108 => (if bt108.2 = 0 then ((lamplighterref10_In.f kj4 t104 (wrap64 (a1))).bind fun t110 => (if t110 = true then (lamplighterlaw15_IndexFinds.j1 kj4 l0 a1 a2 t102 t104 (Op.bytesLess a2.toList bt108.1.toList)) else (lamplighterlaw15_IndexFinds.j1 kj4 l0 a1 a2 t102 t104 true))) else (lamplighterlaw15_IndexFinds.j1 kj4 l0 a1 a2 t102 t104 true))) = some r := H
        have A12 := Aside0.mk A120
        clear A120
        replace H := Option.bind_eq_some_iff.mp H
        obtain ⟨⟨t108, t109⟩, A130, H⟩ := H
        replace H : (if t109 = 0 then ((lamplighterref10_In.f kj4 t104 (wrap64 (a1))).bind fun t110 => (if t110 = true then (lamplighterlaw15_IndexFinds.j1 kj4 l0 a1 a2 t102 t104 (Op.bytesLess a2.toList t108.toList)) else (lamplighterlaw15_IndexFinds.j1 kj4 l0 a1 a2 t102 t104 true))) else (lamplighterlaw15_IndexFinds.j1 kj4 l0 a1 a2 t102 t104 true)) = some r := H
        have A13 := Aside0.mk A130
        clear A130
        have HC14 := Aside0.mk H
        clear H
        go_upto_region 6 with (first | ((with_reducible refine gate_callee (f := 24) rfl ?_); refine goesL_ (some 45) rfl rfl Try.func24 (by kernel_rfl) rfl #[.slice A0 l0.length c0] rfl (by (try simp only [List.map_toArray, List.map_cons, List.map_nil]); first | done | rfl | (simp only [List.length_drop, List.length_take]; rfl)) ?_; (with_reducible refine (arena_Leaves.calls _ _ l0 t104 t105 _ ?side1 ?side2 A12.out).mono ?_); (case side1 => repeat (first | exact (Kd.C_below HR0.out HB.out) | (with_reducible refine Kd.C_alloc ?_ _) | (with_reducible refine Kd.C_drewN ?_ _) | (with_reducible refine Kd.C_drew ?_))); (case side2 => exact HC0.out); rintro e w15 ⟨v106, rfl, ho0, hb⟩; refine ⟨_, rfl, ?_⟩; have n0_ := Aside0.mk (Kd.R_lower ho0 (below_size (by repeat (first | (with_reducible first | exact HB.out | apply below_alloc | apply pw_below_drewN | apply below_drew1) | exact HB.out)))); have n1_ := Aside0.mk (below_step (by repeat (first | (with_reducible first | exact HB.out | apply below_alloc | apply pw_below_drewN | apply below_drew1) | exact HB.out)) hb); clear HB; have HO107 := n0_; have HB := n1_; clear n0_ n1_; (try clear hb); (try clear hb2); (try clear hk); (try clear hi); (try clear ho0)) | ((with_reducible refine gate_callee (f := 22) rfl ?_); refine goesL_ (some 52) rfl rfl Try.func22 (by kernel_rfl) rfl #[.slice A0 l0.length c0, .int .i64 (wrap64 (a1))] rfl (by (try simp only [List.map_toArray, List.map_cons, List.map_nil]); first | done | rfl | (simp only [List.length_drop, List.length_take]; rfl)) ?_; (with_reducible refine (arena_Low.calls _ _ l0 (wrap64 (a1)) t108 t109 _ ?side1 ?side2 A13.out).mono ?_); (case side1 => repeat (first | exact (Kd.C_below HR0.out HB.out) | (with_reducible refine Kd.C_alloc ?_ _) | (with_reducible refine Kd.C_drewN ?_ _) | (with_reducible refine Kd.C_drew ?_))); (case side2 => exact HC0.out); rintro e w16 ⟨rfl, hb⟩; refine ⟨_, rfl, ?_⟩; have n0_ := Aside0.mk (Kd.R_below (by (with_reducible repeat (first | apply Kd.R_alloc | apply Kd.R_drewN | apply Kd.R_drew)); exact HO107.out) hb); have n1_ := Aside0.mk (below_step (by repeat (first | (with_reducible first | exact HB.out | apply below_alloc | apply pw_below_drewN | apply below_drew1) | exact HB.out)) hb); clear HO107; clear HB; have HO107 := n0_; have HB := n1_; clear n0_ n1_; (try clear hb); (try clear hb2); (try clear hk); (try clear hi)))
        (try simp only [Act.put, List.setIfInBounds_toArray, List.set_cons_zero, List.set_cons_succ])
        go_cut [68] (fun v68 wc => ∃ (kq : Nat) (x68_13 : Bool), v68 = .bool x68_13 ∧ Aside0 (lamplighterlaw15_IndexFinds.j1 kq l0 a1 a2 t102 t104 x68_13 = some r) ∧ Aside0 (kq ≤ kj4) ∧ Aside0 (Kd.R (Kd.int .i64) 3 wc w.heap.size (fun _ => True) v106 t104) ∧ Aside0 (Below w.heap.size w wc))
        case first =>
          have H := HC14.out
          clear HC14
          by_cases c17 : t109 = 0
          · rw [if_pos c17] at H
            have c17b0 : (t109 == 0) = true := beq_iff_eq.mpr c17
            have c17b1 : (t109 != 0) = false := bne_eq_false_iff_eq.mpr c17
            clear c17
            (first | rw [c17b0] | (simp only [i64_w, i32_w]; rw [c17b0]) | skip)
            replace H := Option.bind_eq_some_iff.mp H
            obtain ⟨t110, A180, H⟩ := H
            replace H : (if t110 = true then (lamplighterlaw15_IndexFinds.j1 kj4 l0 a1 a2 t102 t104 (Op.bytesLess a2.toList t108.toList)) else (lamplighterlaw15_IndexFinds.j1 kj4 l0 a1 a2 t102 t104 true)) = some r := H
            have A18 := Aside0.mk A180
            clear A180
            by_cases c19 : t110 = true
            · subst c19
              have H1 : (lamplighterlaw15_IndexFinds.j1 kj4 l0 a1 a2 t102 t104 (Op.bytesLess a2.toList t108.toList)) = some r := by rw [if_pos rfl] at H; exact H
              clear H
              have H := H1
              clear H1
              have H' := Aside0.mk H
              clear H
              obtain ⟨Ao20, co20, eo20⟩ := Kd.R_slice HO107.out
              subst eo20
              go_wp2_with (first | (go_at_call 25; (with_reducible refine (lamplighterref10_In.calls kj4 _ _ t104 (wrap64 (a1)) true _ ?side1 ?side2 A18.out).mono ?_); (case side1 => repeat (first | exact (Kd.R_reads' HO107.out).2.2 | (with_reducible refine Kd.C_alloc ?_ _) | (with_reducible refine Kd.C_drewN ?_ _) | (with_reducible refine Kd.C_drew ?_))); (case side2 => exact (Kd.R_reads' HO107.out).2.1); rintro e w' ⟨rfl, ⟨nd, rfl⟩⟩))
              go_meet
              case rel => exact ⟨_, ((Op.bytesLess a2.toList t108.toList)), (by first | rfl | (simp; done) | (simp [*]; done)), H', ⟨by have := HJ4.out; first | omega | exact Nat.le_refl _⟩, ⟨by (with_reducible repeat (first | apply Kd.R_alloc | apply Kd.R_drewN | apply Kd.R_drew)); exact HO107.out⟩, ⟨by repeat (first | (with_reducible first | exact HB.out | apply below_alloc | apply pw_below_drewN | apply below_drew1) | exact HB.out)⟩⟩
            · replace c19 := Bool.eq_false_iff.mpr c19
              subst c19
              have H1 : (lamplighterlaw15_IndexFinds.j1 kj4 l0 a1 a2 t102 t104 true) = some r := by rw [if_neg (show ¬ (false = true) by decide)] at H; exact H
              clear H
              have H := H1
              clear H1
              have H' := Aside0.mk H
              clear H
              obtain ⟨Ao21, co21, eo21⟩ := Kd.R_slice HO107.out
              subst eo21
              go_wp2_with (first | (go_at_call 25; (with_reducible refine (lamplighterref10_In.calls kj4 _ _ t104 (wrap64 (a1)) false _ ?side1 ?side2 A18.out).mono ?_); (case side1 => repeat (first | exact (Kd.R_reads' HO107.out).2.2 | (with_reducible refine Kd.C_alloc ?_ _) | (with_reducible refine Kd.C_drewN ?_ _) | (with_reducible refine Kd.C_drew ?_))); (case side2 => exact (Kd.R_reads' HO107.out).2.1); rintro e w' ⟨rfl, ⟨nd, rfl⟩⟩))
              go_meet
              case rel => exact ⟨_, (true), (by first | rfl | (simp; done) | (simp [*]; done)), H', ⟨by have := HJ4.out; first | omega | exact Nat.le_refl _⟩, ⟨by (with_reducible repeat (first | apply Kd.R_alloc | apply Kd.R_drewN | apply Kd.R_drew)); exact HO107.out⟩, ⟨by repeat (first | (with_reducible first | exact HB.out | apply below_alloc | apply pw_below_drewN | apply below_drew1) | exact HB.out)⟩⟩
          · rw [if_neg c17] at H
            have c17b0 : (t109 == 0) = false := beq_eq_false_iff_ne.mpr c17
            have c17b1 : (t109 != 0) = true := bne_iff_ne.mpr c17
            (first | rw [c17b0] | (simp only [i64_w, i32_w]; rw [c17b0]) | skip)
            have H' := Aside0.mk H
            clear H
            go_wp2
            go_meet
            case rel => exact ⟨_, (true), (by first | rfl | (simp; done) | (simp [*]; done)), H', ⟨by have := HJ4.out; first | omega | exact Nat.le_refl _⟩, ⟨by (with_reducible repeat (first | apply Kd.R_alloc | apply Kd.R_drewN | apply Kd.R_drew)); exact HO107.out⟩, ⟨by repeat (first | (with_reducible first | exact HB.out | apply below_alloc | apply pw_below_drewN | apply below_drew1) | exact HB.out)⟩⟩
        case rest =>
          clear HC14
          try clear c1
          try clear c2
          try clear p2
          try clear c6
          try clear p6
          try clear c7
          try clear c7b0
          try clear c7b1
          try clear c8
          try clear c8b0
          try clear c8b1
          try clear c11
          try clear c14
          try clear c17
          try clear c17b0
          try clear c17b1
          try clear c19
          try clear p2
          obtain ⟨kq, x68_13, rfl, HA, HJ13, HO_8, HB⟩ := hcut
          cases kq with
          | zero => exact absurd HA.out (by simp [lamplighterlaw15_IndexFinds.j1])
          | succ kj13 =>
            have H := HA.out
            clear HA
            simp only [lamplighterlaw15_IndexFinds.j1] at H
            by_cases c22 : x68_13 = true
            · subst c22
              have H1 : (some t102) = some r := by rw [if_pos rfl] at H; exact H
              clear H
              have H := H1
              clear H1
              obtain rfl := Option.some.inj H
              go_wp2
              go_ret
              exact ⟨by first | rfl | (simp [errW_none, errW_some] <;> rfl) | (simp [*, errW_none, errW_some] <;> rfl), by repeat (first | (with_reducible first | exact HB.out | apply below_alloc | apply pw_below_drewN | apply below_drew1) | exact HB.out)⟩
            · replace c22 := Bool.eq_false_iff.mpr c22
              subst c22
              have H1 : ((index_Find.f l0 (wrap64 (a1)) a2 0).bind fun bt111 => ((node_Read.f kj13 l0 bt111.1).bind fun bt113 => ((arena_Low.f l0 bt111.1).bind fun bt122 => ((arena_Low.f l0 bt113.2.2.1).bind fun bt124 => ((amap_Pairs.f l0).bind fun bt126 => ((amap_Own.f l0 bt111.1).bind fun bt130 => ((amap_Get.f bt126.1 a2).bind fun bt134 => ((amap_Get.f bt130.1 a2).bind fun bt136 => (if t102 = true then (if bt111.2 = 0 then (if bt113.2.2.2.2.2 = 0 then (if bt122.2 = 0 then (if bt130.2 = 0 then ((lamplighterref10_In.f kj13 t104 bt111.1).bind fun t138 => (if t138 = true then (if ((Op.bytesLess a2.toList bt122.1.toList) = true) then (none) else (if bt113.2.2.1 = 0 then (if bt134.1.toList = bt136.1.toList then (some (bt134.2 == bt136.2)) else (none)) else (if (Op.bytesLess a2.toList bt124.1.toList) = true then (if bt134.1.toList = bt136.1.toList then (some (bt134.2 == bt136.2)) else (none)) else (none)))) else (none))) else (none)) else (none)) else (none)) else (none)) else (none)))))))))) = some r := by rw [if_neg (show ¬ (false = true) by decide)] at H; exact H
              clear H
              have H := H1
              clear H1
              replace H := Option.bind_eq_some_iff.mp H
              obtain ⟨⟨t111, t112⟩, A230, H⟩ := H
              replace H : ((node_Read.f kj13 l0 t111).bind fun bt113 => ((arena_Low.f l0 t111).bind fun bt122 => ((arena_Low.f l0 bt113.2.2.1).bind fun bt124 => ((amap_Pairs.f l0).bind fun bt126 => ((amap_Own.f l0 t111).bind fun bt130 => ((amap_Get.f bt126.1 a2).bind fun bt134 => ((amap_Get.f bt130.1 a2).bind fun bt136 => (if t102 = true then (if t112 = 0 then (if bt113.2.2.2.2.2 = 0 then (if bt122.2 = 0 then (if bt130.2 = 0 then ((lamplighterref10_In.f kj13 t104 t111).bind fun t138 => (if t138 = true then (if ((Op.bytesLess a2.toList bt122.1.toList) = true) then (none) else (if bt113.2.2.1 = 0 then (if bt134.1.toList = bt136.1.toList then (some (bt134.2 == bt136.2)) else (none)) else (if (Op.bytesLess a2.toList bt124.1.toList) = true then (if bt134.1.toList = bt136.1.toList then (some (bt134.2 == bt136.2)) else (none)) else (none)))) else (none))) else (none)) else (none)) else (none)) else (none)) else (none))))))))) = some r := H
              have A23 := Aside0.mk A230
              clear A230
              replace H := Option.bind_eq_some_iff.mp H
              obtain ⟨⟨t113, t114, t115, t116, t117, t120⟩, A240, H⟩ := H
              replace H : ((arena_Low.f l0 t111).bind fun bt122 => ((arena_Low.f l0 t115).bind fun bt124 => ((amap_Pairs.f l0).bind fun bt126 => ((amap_Own.f l0 t111).bind fun bt130 => ((amap_Get.f bt126.1 a2).bind fun bt134 => ((amap_Get.f bt130.1 a2).bind fun bt136 => (if t102 = true then (if t112 = 0 then (if t120 = 0 then (if bt122.2 = 0 then (if bt130.2 = 0 then ((lamplighterref10_In.f kj13 t104 t111).bind fun t138 => (if t138 = true then (if ((Op.bytesLess a2.toList bt122.1.toList) = true) then (none) else (if t115 = 0 then (if bt134.1.toList = bt136.1.toList then (some (bt134.2 == bt136.2)) else (none)) else (if (Op.bytesLess a2.toList bt124.1.toList) = true then (if bt134.1.toList = bt136.1.toList then (some (bt134.2 == bt136.2)) else (none)) else (none)))) else (none))) else (none)) else (none)) else (none)) else (none)) else (none)))))))) = some r := H
              have A24 := Aside0.mk A240
              clear A240
              replace H := Option.bind_eq_some_iff.mp H
              obtain ⟨⟨t122, t123⟩, A250, H⟩ := H
              replace H : ((arena_Low.f l0 t115).bind fun bt124 => ((amap_Pairs.f l0).bind fun bt126 => ((amap_Own.f l0 t111).bind fun bt130 => ((amap_Get.f bt126.1 a2).bind fun bt134 => ((amap_Get.f bt130.1 a2).bind fun bt136 => (if t102 = true then (if t112 = 0 then (if t120 = 0 then (if t123 = 0 then (if bt130.2 = 0 then ((lamplighterref10_In.f kj13 t104 t111).bind fun t138 => (if t138 = true then (if ((Op.bytesLess a2.toList t122.toList) = true) then (none) else (if t115 = 0 then (if bt134.1.toList = bt136.1.toList then (some (bt134.2 == bt136.2)) else (none)) else (if (Op.bytesLess a2.toList bt124.1.toList) = true then (if bt134.1.toList = bt136.1.toList then (some (bt134.2 == bt136.2)) else (none)) else (none)))) else (none))) else (none)) else (none)) else (none)) else (none)) else (none))))))) = some r := H
              have A25 := Aside0.mk A250
              clear A250
              replace H := Option.bind_eq_some_iff.mp H
              obtain ⟨⟨t124, t125⟩, A260, H⟩ := H
              replace H : ((amap_Pairs.f l0).bind fun bt126 => ((amap_Own.f l0 t111).bind fun bt130 => ((amap_Get.f bt126.1 a2).bind fun bt134 => ((amap_Get.f bt130.1 a2).bind fun bt136 => (if t102 = true then (if t112 = 0 then (if t120 = 0 then (if t123 = 0 then (if bt130.2 = 0 then ((lamplighterref10_In.f kj13 t104 t111).bind fun t138 => (if t138 = true then (if ((Op.bytesLess a2.toList t122.toList) = true) then (none) else (if t115 = 0 then (if bt134.1.toList = bt136.1.toList then (some (bt134.2 == bt136.2)) else (none)) else (if (Op.bytesLess a2.toList t124.toList) = true then (if bt134.1.toList = bt136.1.toList then (some (bt134.2 == bt136.2)) else (none)) else (none)))) else (none))) else (none)) else (none)) else (none)) else (none)) else (none)))))) = some r := H
              have A26 := Aside0.mk A260
              clear A260
              replace H := Option.bind_eq_some_iff.mp H
              obtain ⟨⟨t126, t127⟩, A270, H⟩ := H
              replace H : ((amap_Own.f l0 t111).bind fun bt130 => ((amap_Get.f t126 a2).bind fun bt134 => ((amap_Get.f bt130.1 a2).bind fun bt136 => (if t102 = true then (if t112 = 0 then (if t120 = 0 then (if t123 = 0 then (if bt130.2 = 0 then ((lamplighterref10_In.f kj13 t104 t111).bind fun t138 => (if t138 = true then (if ((Op.bytesLess a2.toList t122.toList) = true) then (none) else (if t115 = 0 then (if bt134.1.toList = bt136.1.toList then (some (bt134.2 == bt136.2)) else (none)) else (if (Op.bytesLess a2.toList t124.toList) = true then (if bt134.1.toList = bt136.1.toList then (some (bt134.2 == bt136.2)) else (none)) else (none)))) else (none))) else (none)) else (none)) else (none)) else (none)) else (none))))) = some r := H
              have A27 := Aside0.mk A270
              clear A270
              replace H := Option.bind_eq_some_iff.mp H
              obtain ⟨⟨t130, t131⟩, A280, H⟩ := H
              replace H : ((amap_Get.f t126 a2).bind fun bt134 => ((amap_Get.f t130 a2).bind fun bt136 => (if t102 = true then (if t112 = 0 then (if t120 = 0 then (if t123 = 0 then (if t131 = 0 then ((lamplighterref10_In.f kj13 t104 t111).bind fun t138 => (if t138 = true then (if ((Op.bytesLess a2.toList t122.toList) = true) then (none) else (if t115 = 0 then (if bt134.1.toList = bt136.1.toList then (some (bt134.2 == bt136.2)) else (none)) else (if (Op.bytesLess a2.toList t124.toList) = true then (if bt134.1.toList = bt136.1.toList then (some (bt134.2 == bt136.2)) else (none)) else (none)))) else (none))) else (none)) else (none)) else (none)) else (none)) else (none)))) = some r := H
              have A28 := Aside0.mk A280
              clear A280
              replace H := Option.bind_eq_some_iff.mp H
              obtain ⟨⟨t134, t135⟩, A290, H⟩ := H
              replace H : ((amap_Get.f t130 a2).bind fun bt136 => (if t102 = true then (if t112 = 0 then (if t120 = 0 then (if t123 = 0 then (if t131 = 0 then ((lamplighterref10_In.f kj13 t104 t111).bind fun t138 => (if t138 = true then (if ((Op.bytesLess a2.toList t122.toList) = true) then (none) else (if t115 = 0 then (if t134.toList = bt136.1.toList then (some (t135 == bt136.2)) else (none)) else (if (Op.bytesLess a2.toList t124.toList) = true then (if t134.toList = bt136.1.toList then (some (t135 == bt136.2)) else (none)) else (none)))) else (none))) else (none)) else (none)) else (none)) else (none)) else (none))) = some r := H
              have A29 := Aside0.mk A290
              clear A290
              replace H := Option.bind_eq_some_iff.mp H
              obtain ⟨⟨t136, t137⟩, A300, H⟩ := H
              replace H : (if t102 = true then (if t112 = 0 then (if t120 = 0 then (if t123 = 0 then (if t131 = 0 then ((lamplighterref10_In.f kj13 t104 t111).bind fun t138 => (if t138 = true then (if ((Op.bytesLess a2.toList t122.toList) = true) then (none) else (if t115 = 0 then (if t134.toList = t136.toList then (some (t135 == t137)) else (none)) else (if (Op.bytesLess a2.toList t124.toList) = true then (if t134.toList = t136.toList then (some (t135 == t137)) else (none)) else (none)))) else (none))) else (none)) else (none)) else (none)) else (none)) else (none)) = some r := H
              have A30 := Aside0.mk A300
              clear A300
              by_cases c31 : t102 = true
              · subst c31
                have H1 : (if t112 = 0 then (if t120 = 0 then (if t123 = 0 then (if t131 = 0 then ((lamplighterref10_In.f kj13 t104 t111).bind fun t138 => (if t138 = true then (if ((Op.bytesLess a2.toList t122.toList) = true) then (none) else (if t115 = 0 then (if t134.toList = t136.toList then (some (t135 == t137)) else (none)) else (if (Op.bytesLess a2.toList t124.toList) = true then (if t134.toList = t136.toList then (some (t135 == t137)) else (none)) else (none)))) else (none))) else (none)) else (none)) else (none)) else (none)) = some r := by rw [if_pos rfl] at H; exact H
                clear H
                have H := H1
                clear H1
                by_cases c32 : t112 = 0
                · rw [if_pos c32] at H
                  have c32b0 : (t112 == 0) = true := beq_iff_eq.mpr c32
                  have c32b1 : (t112 != 0) = false := bne_eq_false_iff_eq.mpr c32
                  clear c32
                  by_cases c33 : t120 = 0
                  · rw [if_pos c33] at H
                    have c33b0 : (t120 == 0) = true := beq_iff_eq.mpr c33
                    have c33b1 : (t120 != 0) = false := bne_eq_false_iff_eq.mpr c33
                    clear c33
                    by_cases c34 : t123 = 0
                    · rw [if_pos c34] at H
                      have c34b0 : (t123 == 0) = true := beq_iff_eq.mpr c34
                      have c34b1 : (t123 != 0) = false := bne_eq_false_iff_eq.mpr c34
                      clear c34
                      by_cases c35 : t131 = 0
                      · rw [if_pos c35] at H
                        have c35b0 : (t131 == 0) = true := beq_iff_eq.mpr c35
                        have c35b1 : (t131 != 0) = false := bne_eq_false_iff_eq.mpr c35
                        clear c35
                        replace H := Option.bind_eq_some_iff.mp H
                        obtain ⟨t138, A360, H⟩ := H
                        replace H : (if t138 = true then (if ((Op.bytesLess a2.toList t122.toList) = true) then (none) else (if t115 = 0 then (if t134.toList = t136.toList then (some (t135 == t137)) else (none)) else (if (Op.bytesLess a2.toList t124.toList) = true then (if t134.toList = t136.toList then (some (t135 == t137)) else (none)) else (none)))) else (none)) = some r := H
                        have A36 := Aside0.mk A360
                        clear A360
                        by_cases c37 : t138 = true
                        · subst c37
                          have H1 : (if ((Op.bytesLess a2.toList t122.toList) = true) then (none) else (if t115 = 0 then (if t134.toList = t136.toList then (some (t135 == t137)) else (none)) else (if (Op.bytesLess a2.toList t124.toList) = true then (if t134.toList = t136.toList then (some (t135 == t137)) else (none)) else (none)))) = some r := by rw [if_pos rfl] at H; exact H
                          clear H
                          have H := H1
                          clear H1
                          by_cases c38 : ((Op.bytesLess a2.toList t122.toList) = true)
                          · rw [if_pos c38] at H
                            exact absurd H (by simp)
                          · rw [if_neg c38] at H
                            have c38b0 : (Op.bytesLess a2.toList t122.toList) = false := by simpa using c38
                            clear c38
                            by_cases c39 : t115 = 0
                            · rw [if_pos c39] at H
                              have c39b0 : (t115 == 0) = true := beq_iff_eq.mpr c39
                              have c39b1 : (t115 != 0) = false := bne_eq_false_iff_eq.mpr c39
                              clear c39
                              by_cases c40 : t134.toList = t136.toList
                              · rw [if_pos c40] at H
                                have c40b0 : (t134.toList == t136.toList) = true := beq_iff_eq.mpr c40
                                have c40b1 : (t134.toList != t136.toList) = false := bne_eq_false_iff_eq.mpr c40
                                clear c40
                                obtain rfl := Option.some.inj H
                                go_wp2_with (first | ((with_reducible refine gate_callee (f := 17) rfl ?_); refine goesL_ (some 75) rfl rfl Try.func17 (by kernel_rfl) rfl #[.slice A0 l0.length c0, .int .i64 (wrap64 (a1)), .string a2, .int .i64 0] rfl (by (try simp only [List.map_toArray, List.map_cons, List.map_nil]); first | done | rfl | (simp only [List.length_drop, List.length_take]; rfl)) ?_; (with_reducible refine (index_Find.calls _ _ l0 (wrap64 (a1)) a2 0 t111 t112 _ ?side1 ?side2 A23.out).mono ?_); (case side1 => repeat (first | exact (Kd.C_below HR0.out HB.out) | (with_reducible refine Kd.C_alloc ?_ _) | (with_reducible refine Kd.C_drewN ?_ _) | (with_reducible refine Kd.C_drew ?_))); (case side2 => exact HC0.out); rintro e w41 ⟨rfl, hb⟩; refine ⟨_, rfl, ?_⟩; have n0_ := Aside0.mk (Kd.R_below (by (with_reducible repeat (first | apply Kd.R_alloc | apply Kd.R_drewN | apply Kd.R_drew)); exact HO_8.out) hb); have n1_ := Aside0.mk (below_step (by repeat (first | (with_reducible first | exact HB.out | apply below_alloc | apply pw_below_drewN | apply below_drew1) | exact HB.out)) hb); clear HO_8; clear HB; have HO_8 := n0_; have HB := n1_; clear n0_ n1_; (try clear hb); (try clear hb2); (try clear hk); (try clear hi)) | ((with_reducible refine gate_callee (f := 21) rfl ?_); refine goesL_ (some 81) rfl rfl Try.func21 (by kernel_rfl) rfl #[.slice A0 l0.length c0, .int .i64 t111] rfl (by (try simp only [List.map_toArray, List.map_cons, List.map_nil]); first | done | rfl | (simp only [List.length_drop, List.length_take]; rfl)) ?_; (with_reducible refine (node_Read.calls kj13 _ _ l0 t111 t113 t114 t115 t116 t117 t120 _ ?side1 ?side2 A24.out).mono ?_); (case side1 => repeat (first | exact (Kd.C_below HR0.out HB.out) | (with_reducible refine Kd.C_alloc ?_ _) | (with_reducible refine Kd.C_drewN ?_ _) | (with_reducible refine Kd.C_drew ?_))); (case side2 => exact HC0.out); rintro e w42 ⟨v118, rfl, ho0, hb⟩; refine ⟨_, rfl, ?_⟩; have n0_ := Aside0.mk (Kd.R_elder' (by (with_reducible repeat (first | apply Kd.R_alloc | apply Kd.R_drewN | apply Kd.R_drew)); exact HO_8.out) (Kd.R_base ho0) hb); have n1_ := Aside0.mk (Kd.R_lower (Kd.R_new' ho0 (Kd.R_lt (by (with_reducible repeat (first | apply Kd.R_alloc | apply Kd.R_drewN | apply Kd.R_drew)); exact HO_8.out))) (below_size (by repeat (first | (with_reducible first | exact HB.out | apply below_alloc | apply pw_below_drewN | apply below_drew1) | exact HB.out)))); have n2_ := Aside0.mk (below_step (by repeat (first | (with_reducible first | exact HB.out | apply below_alloc | apply pw_below_drewN | apply below_drew1) | exact HB.out)) hb); clear HO_8; clear HB; have HO_8 := n0_; have HO119 := n1_; have HB := n2_; clear n0_ n1_ n2_; (try clear hb); (try clear hb2); (try clear hk); (try clear hi); (try clear ho0)) | ((with_reducible refine gate_dst (N := 14) rfl ?_); (try (refine gate_guard (by rfl) ?_; dsimp only)); refine box_event ?hg (N := 14) ?hd (cs := #[.int .i64 0, .int .i64 0, .int .i64 0, .int .i64 0, .slice none 0 0]) (t := 24) ?hr ?_; (case hd => rfl); (case hg => rfl); (case hr => first | (go_simp; done) | (go_simp; rfl)); intro gb121 hg w43 hbox hb; have n0_ := Aside0.mk (Kd.R_below (by (with_reducible repeat (first | apply Kd.R_alloc | apply Kd.R_drewN | apply Kd.R_drew)); exact HO_8.out) hb); have n1_ := Aside0.mk (Kd.R_below (by (with_reducible repeat (first | apply Kd.R_alloc | apply Kd.R_drewN | apply Kd.R_drew)); exact HO119.out) hb); have n2_ := Aside0.mk (below_step (by repeat (first | (with_reducible first | exact HB.out | apply below_alloc | apply pw_below_drewN | apply below_drew1) | exact HB.out)) hb); have n3_ := Aside0.mk (hbox); have n4_ := Aside0.mk ((by rw [hg]; exact (below_size (by repeat (first | (with_reducible first | exact HB.out | apply below_alloc | apply pw_below_drewN | apply below_drew1) | exact HB.out))) : w.heap.size ≤ gb121)); have n5_ := Aside0.mk ((by rw [hg]; exact (below_size (by repeat (first | (with_reducible first | exact HB.out | apply below_alloc | apply pw_below_drewN | apply below_drew1) | exact HB.out))) : w.heap.size ≤ gb121)); clear HO_8; clear HO119; clear HB; have HO_8 := n0_; have HO119 := n1_; have HB := n2_; have BK121 := n3_; have GW121 := n4_; have GE121 := n5_; clear n0_ n1_ n2_ n3_ n4_ n5_; clear hb hbox hg; have hcz44_0 : w43.cell? ⟨gb121, 0, none⟩ = some (.int .i64 0) := (blk_cell BK121.out 0).trans rfl; have hcz44_1 : w43.cell? ⟨gb121, 1, none⟩ = some (.int .i64 0) := (blk_cell BK121.out 1).trans rfl; have hcz44_2 : w43.cell? ⟨gb121, 2, none⟩ = some (.int .i64 0) := (blk_cell BK121.out 2).trans rfl; have hcz44_3 : w43.cell? ⟨gb121, 3, none⟩ = some (.int .i64 0) := (blk_cell BK121.out 3).trans rfl; have hcz44_4 : w43.cell? ⟨gb121, 4, none⟩ = some (.slice none 0 0) := (blk_cell BK121.out 4).trans rfl; have hfz44_0 := blk_frozen BK121.out 0; have hfz44_1 := blk_frozen BK121.out 1; have hfz44_2 := blk_frozen BK121.out 2; have hfz44_3 := blk_frozen BK121.out 3; have hfz44_4 := blk_frozen BK121.out 4; obtain ⟨Ao45, co45, eo45⟩ := Kd.R_slice HO119.out; subst eo45) | ((with_reducible refine gate_callee (f := 22) rfl ?_); refine goesL_ (some 87) rfl rfl Try.func22 (by kernel_rfl) rfl #[.slice A0 l0.length c0, .int .i64 t111] rfl (by (try simp only [List.map_toArray, List.map_cons, List.map_nil]); first | done | rfl | (simp only [List.length_drop, List.length_take]; rfl)) ?_; (with_reducible refine (arena_Low.calls _ _ l0 t111 t122 t123 _ ?side1 ?side2 A25.out).mono ?_); (case side1 => exact Kd.C_below HR0.out (by repeat (first | (with_reducible first | exact HB.out | apply below_alloc | apply pw_below_drewN | apply below_drew1 | refine below_set ?_ GE121.out) | exact HB.out))); (case side2 => exact HC0.out); rintro e w46 ⟨rfl, hb⟩; refine ⟨_, rfl, ?_⟩; have n0_ := Aside0.mk (Kd.R_below (by (with_reducible repeat (first | apply Kd.R_alloc | apply Kd.R_drewN | apply Kd.R_drew)); exact (Kd.R_mono (Kd.R_far (p := ⟨gb121, 4, none⟩) (Kd.R_far (p := ⟨gb121, 3, none⟩) (Kd.R_far (p := ⟨gb121, 2, none⟩) (Kd.R_far (p := ⟨gb121, 1, none⟩) (Kd.R_far (p := ⟨gb121, 0, none⟩) (Kd.R_types HO_8.out BK121.out (by decide)) (fun _ hk => hk.2) (.int .i64 t113)) (fun _ hk => hk.2) (.int .i64 t114)) (fun _ hk => hk.2) (.int .i64 t115)) (fun _ hk => hk.2) (.int .i64 t116)) (fun _ hk => hk.2) (.slice Ao45 t117.length co45)) (fun _ h_ => h_.1))) hb); have n1_ := Aside0.mk (Kd.R_below (by (with_reducible repeat (first | apply Kd.R_alloc | apply Kd.R_drewN | apply Kd.R_drew)); exact (Kd.R_mono (Kd.R_far (p := ⟨gb121, 4, none⟩) (Kd.R_far (p := ⟨gb121, 3, none⟩) (Kd.R_far (p := ⟨gb121, 2, none⟩) (Kd.R_far (p := ⟨gb121, 1, none⟩) (Kd.R_far (p := ⟨gb121, 0, none⟩) (Kd.R_types HO119.out BK121.out (by decide)) (fun _ hk => hk.2) (.int .i64 t113)) (fun _ hk => hk.2) (.int .i64 t114)) (fun _ hk => hk.2) (.int .i64 t115)) (fun _ hk => hk.2) (.int .i64 t116)) (fun _ hk => hk.2) (.slice Ao45 t117.length co45)) (fun _ h_ => h_.1))) hb); have n2_ := Aside0.mk (blk_below (g := gb121) (o := .cells #[.int .i64 t113, .int .i64 t114, .int .i64 t115, .int .i64 t116, .slice Ao45 t117.length co45] 24 (0, 0)) (by (with_reducible repeat (first | refine blk_drewN ?_ _ | refine blk_drew ?_ | refine blk_alloc ?_ _)); refine blk_put (cs := #[.int .i64 t113, .int .i64 t114, .int .i64 t115, .int .i64 t116, .slice none 0 0]) ?_ 4 _ rfl; (with_reducible repeat (first | refine blk_drewN ?_ _ | refine blk_drew ?_ | refine blk_alloc ?_ _)); refine blk_put (cs := #[.int .i64 t113, .int .i64 t114, .int .i64 t115, .int .i64 0, .slice none 0 0]) ?_ 3 _ rfl; (with_reducible repeat (first | refine blk_drewN ?_ _ | refine blk_drew ?_ | refine blk_alloc ?_ _)); refine blk_put (cs := #[.int .i64 t113, .int .i64 t114, .int .i64 0, .int .i64 0, .slice none 0 0]) ?_ 2 _ rfl; (with_reducible repeat (first | refine blk_drewN ?_ _ | refine blk_drew ?_ | refine blk_alloc ?_ _)); refine blk_put (cs := #[.int .i64 t113, .int .i64 0, .int .i64 0, .int .i64 0, .slice none 0 0]) ?_ 1 _ rfl; (with_reducible repeat (first | refine blk_drewN ?_ _ | refine blk_drew ?_ | refine blk_alloc ?_ _)); refine blk_put (cs := #[.int .i64 0, .int .i64 0, .int .i64 0, .int .i64 0, .slice none 0 0]) ?_ 0 _ rfl; (with_reducible repeat (first | refine blk_drewN ?_ _ | refine blk_drew ?_ | refine blk_alloc ?_ _)); exact BK121.out) hb); have n3_ := Aside0.mk (below_step (by repeat (first | (with_reducible first | exact HB.out | apply below_alloc | apply pw_below_drewN | apply below_drew1 | refine below_set ?_ GE121.out) | exact HB.out)) hb); clear HO_8; clear HO119; clear BK121; clear HB; have HO_8 := n0_; have HO119 := n1_; have BK121 := n2_; have HB := n3_; clear n0_ n1_ n2_ n3_; (try clear hb); (try clear hb2); (try clear hk); (try clear hi); have hcz47_0 : w46.cell? ⟨gb121, 0, none⟩ = some (.int .i64 t113) := (blk_cell BK121.out 0).trans rfl; have hcz47_1 : w46.cell? ⟨gb121, 1, none⟩ = some (.int .i64 t114) := (blk_cell BK121.out 1).trans rfl; have hcz47_2 : w46.cell? ⟨gb121, 2, none⟩ = some (.int .i64 t115) := (blk_cell BK121.out 2).trans rfl; have hcz47_3 : w46.cell? ⟨gb121, 3, none⟩ = some (.int .i64 t116) := (blk_cell BK121.out 3).trans rfl; have hcz47_4 : w46.cell? ⟨gb121, 4, none⟩ = some (.slice Ao45 t117.length co45) := (blk_cell BK121.out 4).trans rfl; have hfz47_0 := blk_frozen BK121.out 0; have hfz47_1 := blk_frozen BK121.out 1; have hfz47_2 := blk_frozen BK121.out 2; have hfz47_3 := blk_frozen BK121.out 3; have hfz47_4 := blk_frozen BK121.out 4) | ((with_reducible refine gate_callee (f := 22) rfl ?_); refine goesL_ (some 94) rfl rfl Try.func22 (by kernel_rfl) rfl #[.slice A0 l0.length c0, .int .i64 t115] rfl (by (try simp only [List.map_toArray, List.map_cons, List.map_nil]); first | done | rfl | (simp only [List.length_drop, List.length_take]; rfl)) ?_; (with_reducible refine (arena_Low.calls _ _ l0 t115 t124 t125 _ ?side1 ?side2 A26.out).mono ?_); (case side1 => repeat (first | exact (Kd.C_below HR0.out HB.out) | (with_reducible refine Kd.C_alloc ?_ _) | (with_reducible refine Kd.C_drewN ?_ _) | (with_reducible refine Kd.C_drew ?_))); (case side2 => exact HC0.out); rintro e w48 ⟨rfl, hb⟩; refine ⟨_, rfl, ?_⟩; have n0_ := Aside0.mk (Kd.R_below (by (with_reducible repeat (first | apply Kd.R_alloc | apply Kd.R_drewN | apply Kd.R_drew)); exact HO_8.out) hb); have n1_ := Aside0.mk (Kd.R_below (by (with_reducible repeat (first | apply Kd.R_alloc | apply Kd.R_drewN | apply Kd.R_drew)); exact HO119.out) hb); have n2_ := Aside0.mk (blk_below (g := gb121) (o := .cells #[.int .i64 t113, .int .i64 t114, .int .i64 t115, .int .i64 t116, .slice Ao45 t117.length co45] 24 (0, 0)) (by (with_reducible repeat (first | refine blk_drewN ?_ _ | refine blk_drew ?_ | refine blk_alloc ?_ _)); exact BK121.out) hb); have n3_ := Aside0.mk (below_step (by repeat (first | (with_reducible first | exact HB.out | apply below_alloc | apply pw_below_drewN | apply below_drew1 | refine below_set ?_ GE121.out) | exact HB.out)) hb); clear HO_8; clear HO119; clear BK121; clear HB; have HO_8 := n0_; have HO119 := n1_; have BK121 := n2_; have HB := n3_; clear n0_ n1_ n2_ n3_; (try clear hb); (try clear hb2); (try clear hk); (try clear hi)) | ((with_reducible refine gate_callee (f := 26) rfl ?_); refine goesL_ (some 99) rfl rfl Try.func26 (by kernel_rfl) rfl #[.slice A0 l0.length c0] rfl (by (try simp only [List.map_toArray, List.map_cons, List.map_nil]); first | done | rfl | (simp only [List.length_drop, List.length_take]; rfl)) ?_; (with_reducible refine (amap_Pairs.calls _ _ l0 t126 t127 _ ?side1 ?side2 A27.out).mono ?_); (case side1 => repeat (first | exact (Kd.C_below HR0.out HB.out) | (with_reducible refine Kd.C_alloc ?_ _) | (with_reducible refine Kd.C_drewN ?_ _) | (with_reducible refine Kd.C_drew ?_))); (case side2 => exact HC0.out); rintro e w49 ⟨v128, rfl, ho0, hb⟩; refine ⟨_, rfl, ?_⟩; have n0_ := Aside0.mk (Kd.R_below (by (with_reducible repeat (first | apply Kd.R_alloc | apply Kd.R_drewN | apply Kd.R_drew)); exact HO_8.out) hb); have n1_ := Aside0.mk (Kd.R_below (by (with_reducible repeat (first | apply Kd.R_alloc | apply Kd.R_drewN | apply Kd.R_drew)); exact HO119.out) hb); have n2_ := Aside0.mk (Kd.R_lower ho0 (below_size (by repeat (first | (with_reducible first | exact HB.out | apply below_alloc | apply pw_below_drewN | apply below_drew1 | refine below_set ?_ GE121.out) | exact HB.out)))); have n3_ := Aside0.mk (blk_below (g := gb121) (o := .cells #[.int .i64 t113, .int .i64 t114, .int .i64 t115, .int .i64 t116, .slice Ao45 t117.length co45] 24 (0, 0)) (by (with_reducible repeat (first | refine blk_drewN ?_ _ | refine blk_drew ?_ | refine blk_alloc ?_ _)); exact BK121.out) hb); have n4_ := Aside0.mk (below_step (by repeat (first | (with_reducible first | exact HB.out | apply below_alloc | apply pw_below_drewN | apply below_drew1 | refine below_set ?_ GE121.out) | exact HB.out)) hb); clear HO_8; clear HO119; clear BK121; clear HB; have HO_8 := n0_; have HO119 := n1_; have HO129 := n2_; have BK121 := n3_; have HB := n4_; clear n0_ n1_ n2_ n3_ n4_; (try clear hb); (try clear hb2); (try clear hk); (try clear hi); (try clear ho0)) | ((with_reducible refine gate_callee (f := 27) rfl ?_); refine goesL_ (some 105) rfl rfl Try.func27 (by kernel_rfl) rfl #[.slice A0 l0.length c0, .int .i64 t111] rfl (by (try simp only [List.map_toArray, List.map_cons, List.map_nil]); first | done | rfl | (simp only [List.length_drop, List.length_take]; rfl)) ?_; (with_reducible refine (amap_Own.calls _ _ l0 t111 t130 t131 _ ?side1 ?side2 A28.out).mono ?_); (case side1 => repeat (first | exact (Kd.C_below HR0.out HB.out) | (with_reducible refine Kd.C_alloc ?_ _) | (with_reducible refine Kd.C_drewN ?_ _) | (with_reducible refine Kd.C_drew ?_))); (case side2 => exact HC0.out); rintro e w50 ⟨v132, rfl, ho0, hb⟩; refine ⟨_, rfl, ?_⟩; have n0_ := Aside0.mk (Kd.R_below (by (with_reducible repeat (first | apply Kd.R_alloc | apply Kd.R_drewN | apply Kd.R_drew)); exact HO_8.out) hb); have n1_ := Aside0.mk (Kd.R_below (by (with_reducible repeat (first | apply Kd.R_alloc | apply Kd.R_drewN | apply Kd.R_drew)); exact HO119.out) hb); have n2_ := Aside0.mk (Kd.R_elder' (by (with_reducible repeat (first | apply Kd.R_alloc | apply Kd.R_drewN | apply Kd.R_drew)); exact HO129.out) (Kd.R_base ho0) hb); have n3_ := Aside0.mk (Kd.R_lower (Kd.R_new' ho0 (Kd.R_lt (by (with_reducible repeat (first | apply Kd.R_alloc | apply Kd.R_drewN | apply Kd.R_drew)); exact HO129.out))) (below_size (by repeat (first | (with_reducible first | exact HB.out | apply below_alloc | apply pw_below_drewN | apply below_drew1 | refine below_set ?_ GE121.out) | exact HB.out)))); have n4_ := Aside0.mk (blk_below (g := gb121) (o := .cells #[.int .i64 t113, .int .i64 t114, .int .i64 t115, .int .i64 t116, .slice Ao45 t117.length co45] 24 (0, 0)) (by (with_reducible repeat (first | refine blk_drewN ?_ _ | refine blk_drew ?_ | refine blk_alloc ?_ _)); exact BK121.out) hb); have n5_ := Aside0.mk (below_step (by repeat (first | (with_reducible first | exact HB.out | apply below_alloc | apply pw_below_drewN | apply below_drew1 | refine below_set ?_ GE121.out) | exact HB.out)) hb); clear HO_8; clear HO119; clear HO129; clear BK121; clear HB; have HO_8 := n0_; have HO119 := n1_; have HO129 := n2_; have HO133 := n3_; have BK121 := n4_; have HB := n5_; clear n0_ n1_ n2_ n3_ n4_ n5_; (try clear hb); (try clear hb2); (try clear hk); (try clear hi); (try clear ho0); obtain ⟨Ao51, co51, eo51⟩ := Kd.R_slice HO129.out; subst eo51) | ((with_reducible refine gate_callee (f := 28) rfl ?_); refine goesL_ (some 111) rfl rfl Try.func28 (by kernel_rfl) rfl #[.slice Ao51 t126.length co51, .string a2] rfl (by (try simp only [List.map_toArray, List.map_cons, List.map_nil]); first | done | rfl | (simp only [List.length_drop, List.length_take]; rfl)) ?_; (with_reducible refine (amap_Get.calls _ _ t126 a2 t134 t135 _ ?side1 ?side2 A29.out).mono ?_); (case side1 => repeat (first | exact (Kd.R_reads' HO129.out).2.2 | (with_reducible refine Kd.C_alloc ?_ _) | (with_reducible refine Kd.C_drewN ?_ _) | (with_reducible refine Kd.C_drew ?_))); (case side2 => exact (Kd.R_reads' HO129.out).2.1); rintro e w52 ⟨rfl, hb⟩; refine ⟨_, rfl, ?_⟩; have n0_ := Aside0.mk (Kd.R_below (by (with_reducible repeat (first | apply Kd.R_alloc | apply Kd.R_drewN | apply Kd.R_drew)); exact HO_8.out) hb); have n1_ := Aside0.mk (Kd.R_below (by (with_reducible repeat (first | apply Kd.R_alloc | apply Kd.R_drewN | apply Kd.R_drew)); exact HO119.out) hb); have n2_ := Aside0.mk (Kd.R_below (by (with_reducible repeat (first | apply Kd.R_alloc | apply Kd.R_drewN | apply Kd.R_drew)); exact HO129.out) hb); have n3_ := Aside0.mk (Kd.R_below (by (with_reducible repeat (first | apply Kd.R_alloc | apply Kd.R_drewN | apply Kd.R_drew)); exact HO133.out) hb); have n4_ := Aside0.mk (blk_below (g := gb121) (o := .cells #[.int .i64 t113, .int .i64 t114, .int .i64 t115, .int .i64 t116, .slice Ao45 t117.length co45] 24 (0, 0)) (by (with_reducible repeat (first | refine blk_drewN ?_ _ | refine blk_drew ?_ | refine blk_alloc ?_ _)); exact BK121.out) hb); have n5_ := Aside0.mk (below_step (by repeat (first | (with_reducible first | exact HB.out | apply below_alloc | apply pw_below_drewN | apply below_drew1 | refine below_set ?_ GE121.out) | exact HB.out)) hb); clear HO_8; clear HO119; clear HO129; clear HO133; clear BK121; clear HB; have HO_8 := n0_; have HO119 := n1_; have HO129 := n2_; have HO133 := n3_; have BK121 := n4_; have HB := n5_; clear n0_ n1_ n2_ n3_ n4_ n5_; (try clear hb); (try clear hb2); (try clear hk); (try clear hi); obtain ⟨Ao53, co53, eo53⟩ := Kd.R_slice HO133.out; subst eo53) | ((with_reducible refine gate_callee (f := 28) rfl ?_); refine goesL_ (some 117) rfl rfl Try.func28 (by kernel_rfl) rfl #[.slice Ao53 t130.length co53, .string a2] rfl (by (try simp only [List.map_toArray, List.map_cons, List.map_nil]); first | done | rfl | (simp only [List.length_drop, List.length_take]; rfl)) ?_; (with_reducible refine (amap_Get.calls _ _ t130 a2 t136 t137 _ ?side1 ?side2 A30.out).mono ?_); (case side1 => repeat (first | exact (Kd.R_reads' HO133.out).2.2 | (with_reducible refine Kd.C_alloc ?_ _) | (with_reducible refine Kd.C_drewN ?_ _) | (with_reducible refine Kd.C_drew ?_))); (case side2 => exact (Kd.R_reads' HO133.out).2.1); rintro e w54 ⟨rfl, hb⟩; refine ⟨_, rfl, ?_⟩; have n0_ := Aside0.mk (Kd.R_below (by (with_reducible repeat (first | apply Kd.R_alloc | apply Kd.R_drewN | apply Kd.R_drew)); exact HO_8.out) hb); have n1_ := Aside0.mk (Kd.R_below (by (with_reducible repeat (first | apply Kd.R_alloc | apply Kd.R_drewN | apply Kd.R_drew)); exact HO119.out) hb); have n2_ := Aside0.mk (Kd.R_below (by (with_reducible repeat (first | apply Kd.R_alloc | apply Kd.R_drewN | apply Kd.R_drew)); exact HO129.out) hb); have n3_ := Aside0.mk (Kd.R_below (by (with_reducible repeat (first | apply Kd.R_alloc | apply Kd.R_drewN | apply Kd.R_drew)); exact HO133.out) hb); have n4_ := Aside0.mk (blk_below (g := gb121) (o := .cells #[.int .i64 t113, .int .i64 t114, .int .i64 t115, .int .i64 t116, .slice Ao45 t117.length co45] 24 (0, 0)) (by (with_reducible repeat (first | refine blk_drewN ?_ _ | refine blk_drew ?_ | refine blk_alloc ?_ _)); exact BK121.out) hb); have n5_ := Aside0.mk (below_step (by repeat (first | (with_reducible first | exact HB.out | apply below_alloc | apply pw_below_drewN | apply below_drew1 | refine below_set ?_ GE121.out) | exact HB.out)) hb); clear HO_8; clear HO119; clear HO129; clear HO133; clear BK121; clear HB; have HO_8 := n0_; have HO119 := n1_; have HO129 := n2_; have HO133 := n3_; have BK121 := n4_; have HB := n5_; clear n0_ n1_ n2_ n3_ n4_ n5_; (try clear hb); (try clear hb2); (try clear hk); (try clear hi); obtain ⟨Ao55, co55, eo55⟩ := Kd.R_slice HO_8.out; subst eo55) | (go_at_call 25; (with_reducible refine (lamplighterref10_In.calls kj13 _ _ t104 t111 true _ ?side1 ?side2 A36.out).mono ?_); (case side1 => repeat (first | exact (Kd.R_reads' HO_8.out).2.2 | (with_reducible refine Kd.C_alloc ?_ _) | (with_reducible refine Kd.C_drewN ?_ _) | (with_reducible refine Kd.C_drew ?_))); (case side2 => exact (Kd.R_reads' HO_8.out).2.1); rintro e w' ⟨rfl, ⟨nd, rfl⟩⟩; have hcz56_0 : w54.cell? ⟨gb121, 0, none⟩ = some (.int .i64 t113) := (blk_cell BK121.out 0).trans rfl; have hcz56_1 : w54.cell? ⟨gb121, 1, none⟩ = some (.int .i64 t114) := (blk_cell BK121.out 1).trans rfl; have hcz56_2 : w54.cell? ⟨gb121, 2, none⟩ = some (.int .i64 t115) := (blk_cell BK121.out 2).trans rfl; have hcz56_3 : w54.cell? ⟨gb121, 3, none⟩ = some (.int .i64 t116) := (blk_cell BK121.out 3).trans rfl; have hcz56_4 : w54.cell? ⟨gb121, 4, none⟩ = some (.slice Ao45 t117.length co45) := (blk_cell BK121.out 4).trans rfl; have hfz56_0 := blk_frozen BK121.out 0; have hfz56_1 := blk_frozen BK121.out 1; have hfz56_2 := blk_frozen BK121.out 2; have hfz56_3 := blk_frozen BK121.out 3; have hfz56_4 := blk_frozen BK121.out 4))
                                go_ret
                                exact ⟨by first | rfl | (simp [errW_none, errW_some] <;> rfl) | (simp [*, errW_none, errW_some] <;> rfl), by repeat (first | (with_reducible first | exact HB.out | apply below_alloc | apply pw_below_drewN | apply below_drew1 | refine below_set ?_ GE121.out) | exact HB.out)⟩
                              · rw [if_neg c40] at H
                                exact absurd H (by simp)
                            · rw [if_neg c39] at H
                              have c39b0 : (t115 == 0) = false := beq_eq_false_iff_ne.mpr c39
                              have c39b1 : (t115 != 0) = true := bne_iff_ne.mpr c39
                              by_cases c57 : (Op.bytesLess a2.toList t124.toList) = true
                              · rw [if_pos c57] at H
                                have c57b0 : (Op.bytesLess a2.toList t124.toList) = true := c57
                                clear c57
                                by_cases c58 : t134.toList = t136.toList
                                · rw [if_pos c58] at H
                                  have c58b0 : (t134.toList == t136.toList) = true := beq_iff_eq.mpr c58
                                  have c58b1 : (t134.toList != t136.toList) = false := bne_eq_false_iff_eq.mpr c58
                                  clear c58
                                  obtain rfl := Option.some.inj H
                                  go_wp2_with (first | ((with_reducible refine gate_callee (f := 17) rfl ?_); refine goesL_ (some 75) rfl rfl Try.func17 (by kernel_rfl) rfl #[.slice A0 l0.length c0, .int .i64 (wrap64 (a1)), .string a2, .int .i64 0] rfl (by (try simp only [List.map_toArray, List.map_cons, List.map_nil]); first | done | rfl | (simp only [List.length_drop, List.length_take]; rfl)) ?_; (with_reducible refine (index_Find.calls _ _ l0 (wrap64 (a1)) a2 0 t111 t112 _ ?side1 ?side2 A23.out).mono ?_); (case side1 => repeat (first | exact (Kd.C_below HR0.out HB.out) | (with_reducible refine Kd.C_alloc ?_ _) | (with_reducible refine Kd.C_drewN ?_ _) | (with_reducible refine Kd.C_drew ?_))); (case side2 => exact HC0.out); rintro e w59 ⟨rfl, hb⟩; refine ⟨_, rfl, ?_⟩; have n0_ := Aside0.mk (Kd.R_below (by (with_reducible repeat (first | apply Kd.R_alloc | apply Kd.R_drewN | apply Kd.R_drew)); exact HO_8.out) hb); have n1_ := Aside0.mk (below_step (by repeat (first | (with_reducible first | exact HB.out | apply below_alloc | apply pw_below_drewN | apply below_drew1) | exact HB.out)) hb); clear HO_8; clear HB; have HO_8 := n0_; have HB := n1_; clear n0_ n1_; (try clear hb); (try clear hb2); (try clear hk); (try clear hi)) | ((with_reducible refine gate_callee (f := 21) rfl ?_); refine goesL_ (some 81) rfl rfl Try.func21 (by kernel_rfl) rfl #[.slice A0 l0.length c0, .int .i64 t111] rfl (by (try simp only [List.map_toArray, List.map_cons, List.map_nil]); first | done | rfl | (simp only [List.length_drop, List.length_take]; rfl)) ?_; (with_reducible refine (node_Read.calls kj13 _ _ l0 t111 t113 t114 t115 t116 t117 t120 _ ?side1 ?side2 A24.out).mono ?_); (case side1 => repeat (first | exact (Kd.C_below HR0.out HB.out) | (with_reducible refine Kd.C_alloc ?_ _) | (with_reducible refine Kd.C_drewN ?_ _) | (with_reducible refine Kd.C_drew ?_))); (case side2 => exact HC0.out); rintro e w60 ⟨v118, rfl, ho0, hb⟩; refine ⟨_, rfl, ?_⟩; have n0_ := Aside0.mk (Kd.R_elder' (by (with_reducible repeat (first | apply Kd.R_alloc | apply Kd.R_drewN | apply Kd.R_drew)); exact HO_8.out) (Kd.R_base ho0) hb); have n1_ := Aside0.mk (Kd.R_lower (Kd.R_new' ho0 (Kd.R_lt (by (with_reducible repeat (first | apply Kd.R_alloc | apply Kd.R_drewN | apply Kd.R_drew)); exact HO_8.out))) (below_size (by repeat (first | (with_reducible first | exact HB.out | apply below_alloc | apply pw_below_drewN | apply below_drew1) | exact HB.out)))); have n2_ := Aside0.mk (below_step (by repeat (first | (with_reducible first | exact HB.out | apply below_alloc | apply pw_below_drewN | apply below_drew1) | exact HB.out)) hb); clear HO_8; clear HB; have HO_8 := n0_; have HO119 := n1_; have HB := n2_; clear n0_ n1_ n2_; (try clear hb); (try clear hb2); (try clear hk); (try clear hi); (try clear ho0)) | ((with_reducible refine gate_dst (N := 14) rfl ?_); (try (refine gate_guard (by rfl) ?_; dsimp only)); refine box_event ?hg (N := 14) ?hd (cs := #[.int .i64 0, .int .i64 0, .int .i64 0, .int .i64 0, .slice none 0 0]) (t := 24) ?hr ?_; (case hd => rfl); (case hg => rfl); (case hr => first | (go_simp; done) | (go_simp; rfl)); intro gb121 hg w61 hbox hb; have n0_ := Aside0.mk (Kd.R_below (by (with_reducible repeat (first | apply Kd.R_alloc | apply Kd.R_drewN | apply Kd.R_drew)); exact HO_8.out) hb); have n1_ := Aside0.mk (Kd.R_below (by (with_reducible repeat (first | apply Kd.R_alloc | apply Kd.R_drewN | apply Kd.R_drew)); exact HO119.out) hb); have n2_ := Aside0.mk (below_step (by repeat (first | (with_reducible first | exact HB.out | apply below_alloc | apply pw_below_drewN | apply below_drew1) | exact HB.out)) hb); have n3_ := Aside0.mk (hbox); have n4_ := Aside0.mk ((by rw [hg]; exact (below_size (by repeat (first | (with_reducible first | exact HB.out | apply below_alloc | apply pw_below_drewN | apply below_drew1) | exact HB.out))) : w.heap.size ≤ gb121)); have n5_ := Aside0.mk ((by rw [hg]; exact (below_size (by repeat (first | (with_reducible first | exact HB.out | apply below_alloc | apply pw_below_drewN | apply below_drew1) | exact HB.out))) : w.heap.size ≤ gb121)); clear HO_8; clear HO119; clear HB; have HO_8 := n0_; have HO119 := n1_; have HB := n2_; have BK121 := n3_; have GW121 := n4_; have GE121 := n5_; clear n0_ n1_ n2_ n3_ n4_ n5_; clear hb hbox hg; have hcz62_0 : w61.cell? ⟨gb121, 0, none⟩ = some (.int .i64 0) := (blk_cell BK121.out 0).trans rfl; have hcz62_1 : w61.cell? ⟨gb121, 1, none⟩ = some (.int .i64 0) := (blk_cell BK121.out 1).trans rfl; have hcz62_2 : w61.cell? ⟨gb121, 2, none⟩ = some (.int .i64 0) := (blk_cell BK121.out 2).trans rfl; have hcz62_3 : w61.cell? ⟨gb121, 3, none⟩ = some (.int .i64 0) := (blk_cell BK121.out 3).trans rfl; have hcz62_4 : w61.cell? ⟨gb121, 4, none⟩ = some (.slice none 0 0) := (blk_cell BK121.out 4).trans rfl; have hfz62_0 := blk_frozen BK121.out 0; have hfz62_1 := blk_frozen BK121.out 1; have hfz62_2 := blk_frozen BK121.out 2; have hfz62_3 := blk_frozen BK121.out 3; have hfz62_4 := blk_frozen BK121.out 4; obtain ⟨Ao63, co63, eo63⟩ := Kd.R_slice HO119.out; subst eo63) | ((with_reducible refine gate_callee (f := 22) rfl ?_); refine goesL_ (some 87) rfl rfl Try.func22 (by kernel_rfl) rfl #[.slice A0 l0.length c0, .int .i64 t111] rfl (by (try simp only [List.map_toArray, List.map_cons, List.map_nil]); first | done | rfl | (simp only [List.length_drop, List.length_take]; rfl)) ?_; (with_reducible refine (arena_Low.calls _ _ l0 t111 t122 t123 _ ?side1 ?side2 A25.out).mono ?_); (case side1 => exact Kd.C_below HR0.out (by repeat (first | (with_reducible first | exact HB.out | apply below_alloc | apply pw_below_drewN | apply below_drew1 | refine below_set ?_ GE121.out) | exact HB.out))); (case side2 => exact HC0.out); rintro e w64 ⟨rfl, hb⟩; refine ⟨_, rfl, ?_⟩; have n0_ := Aside0.mk (Kd.R_below (by (with_reducible repeat (first | apply Kd.R_alloc | apply Kd.R_drewN | apply Kd.R_drew)); exact (Kd.R_mono (Kd.R_far (p := ⟨gb121, 4, none⟩) (Kd.R_far (p := ⟨gb121, 3, none⟩) (Kd.R_far (p := ⟨gb121, 2, none⟩) (Kd.R_far (p := ⟨gb121, 1, none⟩) (Kd.R_far (p := ⟨gb121, 0, none⟩) (Kd.R_types HO_8.out BK121.out (by decide)) (fun _ hk => hk.2) (.int .i64 t113)) (fun _ hk => hk.2) (.int .i64 t114)) (fun _ hk => hk.2) (.int .i64 t115)) (fun _ hk => hk.2) (.int .i64 t116)) (fun _ hk => hk.2) (.slice Ao63 t117.length co63)) (fun _ h_ => h_.1))) hb); have n1_ := Aside0.mk (Kd.R_below (by (with_reducible repeat (first | apply Kd.R_alloc | apply Kd.R_drewN | apply Kd.R_drew)); exact (Kd.R_mono (Kd.R_far (p := ⟨gb121, 4, none⟩) (Kd.R_far (p := ⟨gb121, 3, none⟩) (Kd.R_far (p := ⟨gb121, 2, none⟩) (Kd.R_far (p := ⟨gb121, 1, none⟩) (Kd.R_far (p := ⟨gb121, 0, none⟩) (Kd.R_types HO119.out BK121.out (by decide)) (fun _ hk => hk.2) (.int .i64 t113)) (fun _ hk => hk.2) (.int .i64 t114)) (fun _ hk => hk.2) (.int .i64 t115)) (fun _ hk => hk.2) (.int .i64 t116)) (fun _ hk => hk.2) (.slice Ao63 t117.length co63)) (fun _ h_ => h_.1))) hb); have n2_ := Aside0.mk (blk_below (g := gb121) (o := .cells #[.int .i64 t113, .int .i64 t114, .int .i64 t115, .int .i64 t116, .slice Ao63 t117.length co63] 24 (0, 0)) (by (with_reducible repeat (first | refine blk_drewN ?_ _ | refine blk_drew ?_ | refine blk_alloc ?_ _)); refine blk_put (cs := #[.int .i64 t113, .int .i64 t114, .int .i64 t115, .int .i64 t116, .slice none 0 0]) ?_ 4 _ rfl; (with_reducible repeat (first | refine blk_drewN ?_ _ | refine blk_drew ?_ | refine blk_alloc ?_ _)); refine blk_put (cs := #[.int .i64 t113, .int .i64 t114, .int .i64 t115, .int .i64 0, .slice none 0 0]) ?_ 3 _ rfl; (with_reducible repeat (first | refine blk_drewN ?_ _ | refine blk_drew ?_ | refine blk_alloc ?_ _)); refine blk_put (cs := #[.int .i64 t113, .int .i64 t114, .int .i64 0, .int .i64 0, .slice none 0 0]) ?_ 2 _ rfl; (with_reducible repeat (first | refine blk_drewN ?_ _ | refine blk_drew ?_ | refine blk_alloc ?_ _)); refine blk_put (cs := #[.int .i64 t113, .int .i64 0, .int .i64 0, .int .i64 0, .slice none 0 0]) ?_ 1 _ rfl; (with_reducible repeat (first | refine blk_drewN ?_ _ | refine blk_drew ?_ | refine blk_alloc ?_ _)); refine blk_put (cs := #[.int .i64 0, .int .i64 0, .int .i64 0, .int .i64 0, .slice none 0 0]) ?_ 0 _ rfl; (with_reducible repeat (first | refine blk_drewN ?_ _ | refine blk_drew ?_ | refine blk_alloc ?_ _)); exact BK121.out) hb); have n3_ := Aside0.mk (below_step (by repeat (first | (with_reducible first | exact HB.out | apply below_alloc | apply pw_below_drewN | apply below_drew1 | refine below_set ?_ GE121.out) | exact HB.out)) hb); clear HO_8; clear HO119; clear BK121; clear HB; have HO_8 := n0_; have HO119 := n1_; have BK121 := n2_; have HB := n3_; clear n0_ n1_ n2_ n3_; (try clear hb); (try clear hb2); (try clear hk); (try clear hi); have hcz65_0 : w64.cell? ⟨gb121, 0, none⟩ = some (.int .i64 t113) := (blk_cell BK121.out 0).trans rfl; have hcz65_1 : w64.cell? ⟨gb121, 1, none⟩ = some (.int .i64 t114) := (blk_cell BK121.out 1).trans rfl; have hcz65_2 : w64.cell? ⟨gb121, 2, none⟩ = some (.int .i64 t115) := (blk_cell BK121.out 2).trans rfl; have hcz65_3 : w64.cell? ⟨gb121, 3, none⟩ = some (.int .i64 t116) := (blk_cell BK121.out 3).trans rfl; have hcz65_4 : w64.cell? ⟨gb121, 4, none⟩ = some (.slice Ao63 t117.length co63) := (blk_cell BK121.out 4).trans rfl; have hfz65_0 := blk_frozen BK121.out 0; have hfz65_1 := blk_frozen BK121.out 1; have hfz65_2 := blk_frozen BK121.out 2; have hfz65_3 := blk_frozen BK121.out 3; have hfz65_4 := blk_frozen BK121.out 4) | ((with_reducible refine gate_callee (f := 22) rfl ?_); refine goesL_ (some 94) rfl rfl Try.func22 (by kernel_rfl) rfl #[.slice A0 l0.length c0, .int .i64 t115] rfl (by (try simp only [List.map_toArray, List.map_cons, List.map_nil]); first | done | rfl | (simp only [List.length_drop, List.length_take]; rfl)) ?_; (with_reducible refine (arena_Low.calls _ _ l0 t115 t124 t125 _ ?side1 ?side2 A26.out).mono ?_); (case side1 => repeat (first | exact (Kd.C_below HR0.out HB.out) | (with_reducible refine Kd.C_alloc ?_ _) | (with_reducible refine Kd.C_drewN ?_ _) | (with_reducible refine Kd.C_drew ?_))); (case side2 => exact HC0.out); rintro e w66 ⟨rfl, hb⟩; refine ⟨_, rfl, ?_⟩; have n0_ := Aside0.mk (Kd.R_below (by (with_reducible repeat (first | apply Kd.R_alloc | apply Kd.R_drewN | apply Kd.R_drew)); exact HO_8.out) hb); have n1_ := Aside0.mk (Kd.R_below (by (with_reducible repeat (first | apply Kd.R_alloc | apply Kd.R_drewN | apply Kd.R_drew)); exact HO119.out) hb); have n2_ := Aside0.mk (blk_below (g := gb121) (o := .cells #[.int .i64 t113, .int .i64 t114, .int .i64 t115, .int .i64 t116, .slice Ao63 t117.length co63] 24 (0, 0)) (by (with_reducible repeat (first | refine blk_drewN ?_ _ | refine blk_drew ?_ | refine blk_alloc ?_ _)); exact BK121.out) hb); have n3_ := Aside0.mk (below_step (by repeat (first | (with_reducible first | exact HB.out | apply below_alloc | apply pw_below_drewN | apply below_drew1 | refine below_set ?_ GE121.out) | exact HB.out)) hb); clear HO_8; clear HO119; clear BK121; clear HB; have HO_8 := n0_; have HO119 := n1_; have BK121 := n2_; have HB := n3_; clear n0_ n1_ n2_ n3_; (try clear hb); (try clear hb2); (try clear hk); (try clear hi)) | ((with_reducible refine gate_callee (f := 26) rfl ?_); refine goesL_ (some 99) rfl rfl Try.func26 (by kernel_rfl) rfl #[.slice A0 l0.length c0] rfl (by (try simp only [List.map_toArray, List.map_cons, List.map_nil]); first | done | rfl | (simp only [List.length_drop, List.length_take]; rfl)) ?_; (with_reducible refine (amap_Pairs.calls _ _ l0 t126 t127 _ ?side1 ?side2 A27.out).mono ?_); (case side1 => repeat (first | exact (Kd.C_below HR0.out HB.out) | (with_reducible refine Kd.C_alloc ?_ _) | (with_reducible refine Kd.C_drewN ?_ _) | (with_reducible refine Kd.C_drew ?_))); (case side2 => exact HC0.out); rintro e w67 ⟨v128, rfl, ho0, hb⟩; refine ⟨_, rfl, ?_⟩; have n0_ := Aside0.mk (Kd.R_below (by (with_reducible repeat (first | apply Kd.R_alloc | apply Kd.R_drewN | apply Kd.R_drew)); exact HO_8.out) hb); have n1_ := Aside0.mk (Kd.R_below (by (with_reducible repeat (first | apply Kd.R_alloc | apply Kd.R_drewN | apply Kd.R_drew)); exact HO119.out) hb); have n2_ := Aside0.mk (Kd.R_lower ho0 (below_size (by repeat (first | (with_reducible first | exact HB.out | apply below_alloc | apply pw_below_drewN | apply below_drew1 | refine below_set ?_ GE121.out) | exact HB.out)))); have n3_ := Aside0.mk (blk_below (g := gb121) (o := .cells #[.int .i64 t113, .int .i64 t114, .int .i64 t115, .int .i64 t116, .slice Ao63 t117.length co63] 24 (0, 0)) (by (with_reducible repeat (first | refine blk_drewN ?_ _ | refine blk_drew ?_ | refine blk_alloc ?_ _)); exact BK121.out) hb); have n4_ := Aside0.mk (below_step (by repeat (first | (with_reducible first | exact HB.out | apply below_alloc | apply pw_below_drewN | apply below_drew1 | refine below_set ?_ GE121.out) | exact HB.out)) hb); clear HO_8; clear HO119; clear BK121; clear HB; have HO_8 := n0_; have HO119 := n1_; have HO129 := n2_; have BK121 := n3_; have HB := n4_; clear n0_ n1_ n2_ n3_ n4_; (try clear hb); (try clear hb2); (try clear hk); (try clear hi); (try clear ho0)) | ((with_reducible refine gate_callee (f := 27) rfl ?_); refine goesL_ (some 105) rfl rfl Try.func27 (by kernel_rfl) rfl #[.slice A0 l0.length c0, .int .i64 t111] rfl (by (try simp only [List.map_toArray, List.map_cons, List.map_nil]); first | done | rfl | (simp only [List.length_drop, List.length_take]; rfl)) ?_; (with_reducible refine (amap_Own.calls _ _ l0 t111 t130 t131 _ ?side1 ?side2 A28.out).mono ?_); (case side1 => repeat (first | exact (Kd.C_below HR0.out HB.out) | (with_reducible refine Kd.C_alloc ?_ _) | (with_reducible refine Kd.C_drewN ?_ _) | (with_reducible refine Kd.C_drew ?_))); (case side2 => exact HC0.out); rintro e w68 ⟨v132, rfl, ho0, hb⟩; refine ⟨_, rfl, ?_⟩; have n0_ := Aside0.mk (Kd.R_below (by (with_reducible repeat (first | apply Kd.R_alloc | apply Kd.R_drewN | apply Kd.R_drew)); exact HO_8.out) hb); have n1_ := Aside0.mk (Kd.R_below (by (with_reducible repeat (first | apply Kd.R_alloc | apply Kd.R_drewN | apply Kd.R_drew)); exact HO119.out) hb); have n2_ := Aside0.mk (Kd.R_elder' (by (with_reducible repeat (first | apply Kd.R_alloc | apply Kd.R_drewN | apply Kd.R_drew)); exact HO129.out) (Kd.R_base ho0) hb); have n3_ := Aside0.mk (Kd.R_lower (Kd.R_new' ho0 (Kd.R_lt (by (with_reducible repeat (first | apply Kd.R_alloc | apply Kd.R_drewN | apply Kd.R_drew)); exact HO129.out))) (below_size (by repeat (first | (with_reducible first | exact HB.out | apply below_alloc | apply pw_below_drewN | apply below_drew1 | refine below_set ?_ GE121.out) | exact HB.out)))); have n4_ := Aside0.mk (blk_below (g := gb121) (o := .cells #[.int .i64 t113, .int .i64 t114, .int .i64 t115, .int .i64 t116, .slice Ao63 t117.length co63] 24 (0, 0)) (by (with_reducible repeat (first | refine blk_drewN ?_ _ | refine blk_drew ?_ | refine blk_alloc ?_ _)); exact BK121.out) hb); have n5_ := Aside0.mk (below_step (by repeat (first | (with_reducible first | exact HB.out | apply below_alloc | apply pw_below_drewN | apply below_drew1 | refine below_set ?_ GE121.out) | exact HB.out)) hb); clear HO_8; clear HO119; clear HO129; clear BK121; clear HB; have HO_8 := n0_; have HO119 := n1_; have HO129 := n2_; have HO133 := n3_; have BK121 := n4_; have HB := n5_; clear n0_ n1_ n2_ n3_ n4_ n5_; (try clear hb); (try clear hb2); (try clear hk); (try clear hi); (try clear ho0); obtain ⟨Ao69, co69, eo69⟩ := Kd.R_slice HO129.out; subst eo69) | ((with_reducible refine gate_callee (f := 28) rfl ?_); refine goesL_ (some 111) rfl rfl Try.func28 (by kernel_rfl) rfl #[.slice Ao69 t126.length co69, .string a2] rfl (by (try simp only [List.map_toArray, List.map_cons, List.map_nil]); first | done | rfl | (simp only [List.length_drop, List.length_take]; rfl)) ?_; (with_reducible refine (amap_Get.calls _ _ t126 a2 t134 t135 _ ?side1 ?side2 A29.out).mono ?_); (case side1 => repeat (first | exact (Kd.R_reads' HO129.out).2.2 | (with_reducible refine Kd.C_alloc ?_ _) | (with_reducible refine Kd.C_drewN ?_ _) | (with_reducible refine Kd.C_drew ?_))); (case side2 => exact (Kd.R_reads' HO129.out).2.1); rintro e w70 ⟨rfl, hb⟩; refine ⟨_, rfl, ?_⟩; have n0_ := Aside0.mk (Kd.R_below (by (with_reducible repeat (first | apply Kd.R_alloc | apply Kd.R_drewN | apply Kd.R_drew)); exact HO_8.out) hb); have n1_ := Aside0.mk (Kd.R_below (by (with_reducible repeat (first | apply Kd.R_alloc | apply Kd.R_drewN | apply Kd.R_drew)); exact HO119.out) hb); have n2_ := Aside0.mk (Kd.R_below (by (with_reducible repeat (first | apply Kd.R_alloc | apply Kd.R_drewN | apply Kd.R_drew)); exact HO129.out) hb); have n3_ := Aside0.mk (Kd.R_below (by (with_reducible repeat (first | apply Kd.R_alloc | apply Kd.R_drewN | apply Kd.R_drew)); exact HO133.out) hb); have n4_ := Aside0.mk (blk_below (g := gb121) (o := .cells #[.int .i64 t113, .int .i64 t114, .int .i64 t115, .int .i64 t116, .slice Ao63 t117.length co63] 24 (0, 0)) (by (with_reducible repeat (first | refine blk_drewN ?_ _ | refine blk_drew ?_ | refine blk_alloc ?_ _)); exact BK121.out) hb); have n5_ := Aside0.mk (below_step (by repeat (first | (with_reducible first | exact HB.out | apply below_alloc | apply pw_below_drewN | apply below_drew1 | refine below_set ?_ GE121.out) | exact HB.out)) hb); clear HO_8; clear HO119; clear HO129; clear HO133; clear BK121; clear HB; have HO_8 := n0_; have HO119 := n1_; have HO129 := n2_; have HO133 := n3_; have BK121 := n4_; have HB := n5_; clear n0_ n1_ n2_ n3_ n4_ n5_; (try clear hb); (try clear hb2); (try clear hk); (try clear hi); obtain ⟨Ao71, co71, eo71⟩ := Kd.R_slice HO133.out; subst eo71) | ((with_reducible refine gate_callee (f := 28) rfl ?_); refine goesL_ (some 117) rfl rfl Try.func28 (by kernel_rfl) rfl #[.slice Ao71 t130.length co71, .string a2] rfl (by (try simp only [List.map_toArray, List.map_cons, List.map_nil]); first | done | rfl | (simp only [List.length_drop, List.length_take]; rfl)) ?_; (with_reducible refine (amap_Get.calls _ _ t130 a2 t136 t137 _ ?side1 ?side2 A30.out).mono ?_); (case side1 => repeat (first | exact (Kd.R_reads' HO133.out).2.2 | (with_reducible refine Kd.C_alloc ?_ _) | (with_reducible refine Kd.C_drewN ?_ _) | (with_reducible refine Kd.C_drew ?_))); (case side2 => exact (Kd.R_reads' HO133.out).2.1); rintro e w72 ⟨rfl, hb⟩; refine ⟨_, rfl, ?_⟩; have n0_ := Aside0.mk (Kd.R_below (by (with_reducible repeat (first | apply Kd.R_alloc | apply Kd.R_drewN | apply Kd.R_drew)); exact HO_8.out) hb); have n1_ := Aside0.mk (Kd.R_below (by (with_reducible repeat (first | apply Kd.R_alloc | apply Kd.R_drewN | apply Kd.R_drew)); exact HO119.out) hb); have n2_ := Aside0.mk (Kd.R_below (by (with_reducible repeat (first | apply Kd.R_alloc | apply Kd.R_drewN | apply Kd.R_drew)); exact HO129.out) hb); have n3_ := Aside0.mk (Kd.R_below (by (with_reducible repeat (first | apply Kd.R_alloc | apply Kd.R_drewN | apply Kd.R_drew)); exact HO133.out) hb); have n4_ := Aside0.mk (blk_below (g := gb121) (o := .cells #[.int .i64 t113, .int .i64 t114, .int .i64 t115, .int .i64 t116, .slice Ao63 t117.length co63] 24 (0, 0)) (by (with_reducible repeat (first | refine blk_drewN ?_ _ | refine blk_drew ?_ | refine blk_alloc ?_ _)); exact BK121.out) hb); have n5_ := Aside0.mk (below_step (by repeat (first | (with_reducible first | exact HB.out | apply below_alloc | apply pw_below_drewN | apply below_drew1 | refine below_set ?_ GE121.out) | exact HB.out)) hb); clear HO_8; clear HO119; clear HO129; clear HO133; clear BK121; clear HB; have HO_8 := n0_; have HO119 := n1_; have HO129 := n2_; have HO133 := n3_; have BK121 := n4_; have HB := n5_; clear n0_ n1_ n2_ n3_ n4_ n5_; (try clear hb); (try clear hb2); (try clear hk); (try clear hi); obtain ⟨Ao73, co73, eo73⟩ := Kd.R_slice HO_8.out; subst eo73) | (go_at_call 25; (with_reducible refine (lamplighterref10_In.calls kj13 _ _ t104 t111 true _ ?side1 ?side2 A36.out).mono ?_); (case side1 => repeat (first | exact (Kd.R_reads' HO_8.out).2.2 | (with_reducible refine Kd.C_alloc ?_ _) | (with_reducible refine Kd.C_drewN ?_ _) | (with_reducible refine Kd.C_drew ?_))); (case side2 => exact (Kd.R_reads' HO_8.out).2.1); rintro e w' ⟨rfl, ⟨nd, rfl⟩⟩; have hcz74_0 : w72.cell? ⟨gb121, 0, none⟩ = some (.int .i64 t113) := (blk_cell BK121.out 0).trans rfl; have hcz74_1 : w72.cell? ⟨gb121, 1, none⟩ = some (.int .i64 t114) := (blk_cell BK121.out 1).trans rfl; have hcz74_2 : w72.cell? ⟨gb121, 2, none⟩ = some (.int .i64 t115) := (blk_cell BK121.out 2).trans rfl; have hcz74_3 : w72.cell? ⟨gb121, 3, none⟩ = some (.int .i64 t116) := (blk_cell BK121.out 3).trans rfl; have hcz74_4 : w72.cell? ⟨gb121, 4, none⟩ = some (.slice Ao63 t117.length co63) := (blk_cell BK121.out 4).trans rfl; have hfz74_0 := blk_frozen BK121.out 0; have hfz74_1 := blk_frozen BK121.out 1; have hfz74_2 := blk_frozen BK121.out 2; have hfz74_3 := blk_frozen BK121.out 3; have hfz74_4 := blk_frozen BK121.out 4))
                                  go_ret
                                  exact ⟨by first | rfl | (simp [errW_none, errW_some] <;> rfl) | (simp [*, errW_none, errW_some] <;> rfl), by repeat (first | (with_reducible first | exact HB.out | apply below_alloc | apply pw_below_drewN | apply below_drew1 | refine below_set ?_ GE121.out) | exact HB.out)⟩
                                · rw [if_neg c58] at H
                                  exact absurd H (by simp)
                              · rw [if_neg c57] at H
                                exact absurd H (by simp)
                        · replace c37 := Bool.eq_false_iff.mpr c37
                          subst c37
                          have H1 : (none) = some r := by rw [if_neg (show ¬ (false = true) by decide)] at H; exact H
                          clear H
                          have H := H1
                          clear H1
                          exact absurd H (by simp)
                      · rw [if_neg c35] at H
                        exact absurd H (by simp)
                    · rw [if_neg c34] at H
                      exact absurd H (by simp)
                  · rw [if_neg c33] at H
                    exact absurd H (by simp)
                · rw [if_neg c32] at H
                  exact absurd H (by simp)
              · replace c31 := Bool.eq_false_iff.mpr c31
                subst c31
                have H1 : (none) = some r := by rw [if_neg (show ¬ (false = true) by decide)] at H; exact H
                clear H
                have H := H1
                clear H1
                exact absurd H (by simp)

end
end Go.Proofs.Ytliaemoomhfcdaa.FI
