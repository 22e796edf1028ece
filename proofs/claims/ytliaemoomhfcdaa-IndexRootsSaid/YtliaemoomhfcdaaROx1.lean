/- Written by this session's own program (hprint.py) with the help of the kit's print. Lean checks it. -/
import Derived.Test.YtliaemoomhfcdaaMQ
import Derived.Test.YtliaemoomhfcdaaROx0
import Derived.Test.YtliaemoomhfcdaaGivenSO
namespace Go.Proofs.Ytliaemoomhfcdaa.RO
open Go.Proofs.Ytliaemoomhfcdaa.SO Go.Proofs.Ytliaemoomhfcdaa.SN Go.Proofs.Ytliaemoomhfcdaa.LC Go.Proofs.Ytliaemoomhfcdaa.AW Go.Proofs.Ytliaemoomhfcdaa.ID   -- OPENED
open Go.RowKit Go.Proofs.YtliaemoomhfcdaaW.PrintWords Go.Proofs.YtliaemoomhfcdaaW.PrintLast Go.Proofs.YtliaemoomhfcdaaW.PrintMore
attribute [local go_sem] max2_int min2_int max_two min_two max_three min_three max_four min_four   -- for this text's walks alone
set_option linter.unusedVariables false
set_option linter.unusedSimpArgs false
noncomputable section

/-! ### lamplighterlaw15_IndexRoots: function 8 -/
def lamplighterlaw15_IndexRoots.j0 : Nat → List Int → ByteArray → Bool → Bool → Option (Bool)
  | 0, _, _, _, _ => none
  | k + 1, x0, x1, x5, x27 => if x27 = true then (some x5) else ((super_Read.f x0).bind fun bt103 => ((index_Find.f x0 bt103.2.1 x1 0).bind fun bt106 => ((index_Find.f x0 1 x1 0).bind fun bt108 => ((some (([] : List Int) : List Int)).bind fun y110 => (if y110.length + x0.length < 17592186044416 then ((some (y110 ++ x0 : List Int)).bind fun y113 => (if 3 < (y113.length : Int) then (if x5 = true then (if bt103.2.2 = 0 then (if bt106.2 = 0 then (if bt108.2 = 0 then (if bt106.1 = bt108.1 then ((arena_Check.f x0).bind fun t117 => (if t117 = 0 then ((index_Sound.f (y113.set (3 : Int).toNat 1)).bind fun t118 => (some t118)) else (none))) else (none)) else (none)) else (none)) else (none)) else (none)) else (none))) else (none))))))
def lamplighterlaw15_IndexRoots.f (k : Nat) (l0 : List Int) (a1 : ByteArray) : Option (Bool) := (lamplighterlaw15_awake.f).bind fun t101 => (if (l0.length : Int) > 1000 then (lamplighterlaw15_IndexRoots.j0 k l0 a1 t101 true) else (if (a1.size : Int) > 100 then (lamplighterlaw15_IndexRoots.j0 k l0 a1 t101 true) else ((index_Sound.f l0).bind fun t102 => (lamplighterlaw15_IndexRoots.j0 k l0 a1 t101 (!t102)))))
theorem lamplighterlaw15_IndexRoots.mono_l : ∀ k, (∀ y0 y1 y2 y3, LeO (lamplighterlaw15_IndexRoots.j0 k y0 y1 y2 y3) (lamplighterlaw15_IndexRoots.j0 (k + 1) y0 y1 y2 y3))
  | 0 => fun _ _ _ _ r h => by simp [lamplighterlaw15_IndexRoots.j0] at h
  | k + 1 => by
    have ih0 := lamplighterlaw15_IndexRoots.mono_l k
    · intro y0 y1 y2 y3
      unfold lamplighterlaw15_IndexRoots.j0
      repeat' first
      | (with_reducible exact ih0 _ _ _ _)
      | (with_reducible exact LeO.refl _)
      | (with_reducible exact LeO.none _)
      | (with_reducible refine LeO.ite ?_ ?_)
      | (with_reducible refine LeO.bind ?_ (fun _ => ?_))
      | exact ih0 _ _ _ _
      | exact LeO.none _
      | refine LeO.ite ?_ ?_
      | refine LeO.bind ?_ (fun _ => ?_)
theorem lamplighterlaw15_IndexRoots.mono : ∀ a0 a1 k, LeO (lamplighterlaw15_IndexRoots.f k a0 a1) (lamplighterlaw15_IndexRoots.f (k + 1) a0 a1) := by
 intro a0 a1 k
 have ih0 := lamplighterlaw15_IndexRoots.mono_l k
 unfold lamplighterlaw15_IndexRoots.f
 repeat' first
     | (with_reducible exact ih0 _ _ _ _)
     | (with_reducible exact LeO.refl _)
     | (with_reducible exact LeO.none _)
     | (with_reducible refine LeO.ite ?_ ?_)
     | (with_reducible refine LeO.bind ?_ (fun _ => ?_))
     | exact ih0 _ _ _ _
     | exact LeO.none _
     | refine LeO.ite ?_ ?_
     | refine LeO.bind ?_ (fun _ => ?_)
set_option maxHeartbeats 8000000 in
set_option maxRecDepth 100000 in
theorem lamplighterlaw15_IndexRoots.calls (k : Nat) (A0 : Option Addr) (c0 : Nat) (l0 : List Int) (a1 : ByteArray) (r : Bool) (w : World) (hr0 : Kd.C (Kd.int .i64) w A0 l0.length l0) (hc0 : l0.length ≤ c0) (h : lamplighterlaw15_IndexRoots.f k l0 a1 = some r) :
    Calls Try.prog 8 #[.slice A0 l0.length c0, .string a1] w fun e w' => e = .returned (.bool r) ∧ Below w.heap.size w w' := by
 have HR0 := Aside0.mk hr0
 have HC0 := Aside0.mk hc0
 clear hr0 hc0
 have HB := Aside0.mk (Below.refl w.heap.size w)
 have H : ((lamplighterlaw15_awake.f).bind fun t101 => (if (l0.length : Int) > 1000 then (lamplighterlaw15_IndexRoots.j0 k l0 a1 t101 true) else (if (a1.size : Int) > 100 then (lamplighterlaw15_IndexRoots.j0 k l0 a1 t101 true) else ((index_Sound.f l0).bind fun t102 => (lamplighterlaw15_IndexRoots.j0 k l0 a1 t101 (!t102)))))) = some r := h
 clear h
 replace H := Option.bind_eq_some_iff.mp H
 obtain ⟨t101, A30, H⟩ := H
 replace H : (if (l0.length : Int) > 1000 then (lamplighterlaw15_IndexRoots.j0 k l0 a1 t101 true) else (if (a1.size : Int) > 100 then (lamplighterlaw15_IndexRoots.j0 k l0 a1 t101 true) else ((index_Sound.f l0).bind fun t102 => (lamplighterlaw15_IndexRoots.j0 k l0 a1 t101 (!t102))))) = some r := H
 have A3 := Aside0.mk A30
 clear A30
 have HC4 := Aside0.mk H
 clear H
 go_enter Try.func8, Try.ntmps8
 go_upto_region 2 with (first | ((with_reducible refine gate_callee (f := 14) rfl ?_); refine goesL_ (some 14) rfl rfl Try.func14 (by kernel_rfl) rfl #[] rfl qm_ ?_; (with_reducible refine (lamplighterlaw15_awake.calls  t101 _ A3.out).mono ?_); rintro e w5 ⟨rfl, hb⟩; refine ⟨_, rfl, ?_⟩; have n0_ := Aside0.mk (below_step qh_ hb); clear HB; have HB := n0_; clear n0_; (try clear hb); (try clear hb2); (try clear hk); (try clear hi)))
 (try simp only [Act.put, List.setIfInBounds_toArray, List.set_cons_zero, List.set_cons_succ])
 go_cut [27] (fun v27 wc => ∃ (kq : Nat) (x27_3 : Bool), v27 = .bool x27_3 ∧ Aside0 (lamplighterlaw15_IndexRoots.j0 kq l0 a1 t101 x27_3 = some r) ∧ Aside0 (kq ≤ k) ∧ Aside0 (Below w.heap.size w wc))
 case first =>
  have H := HC4.out
  clear HC4
  by_cases c6 : (l0.length : Int) > 1000
  · rw [if_pos c6] at H
    have c6b0 : decide (1000 < (l0.length : Int)) = true := decide_eq_true c6
    have c6b1 : decide (1000 < l0.length) = true := decide_eq_true (by omega)
    clear c6
    (first | rw [c6b0] | (simp only [i64_w, i32_w]; rw [c6b0]) | skip)
    have H' := Aside0.mk H
    clear H
    go_wp2
    go_meet
    case rel => exact ⟨_, (true), (by first | rfl | (simp; done) | (simp [*]; done)), H', ⟨by first | omega | exact Nat.le_refl _⟩, ⟨qh_⟩⟩
  rw [if_neg c6] at H
  have c6b0 : decide (1000 < (l0.length : Int)) = false := decide_eq_false c6
  have c6b1 : decide (1000 < l0.length) = false := decide_eq_false (by omega)
  clear c6
  (first | rw [c6b0] | (simp only [i64_w, i32_w]; rw [c6b0]) | skip)
  by_cases c7 : (a1.size : Int) > 100
  · rw [if_pos c7] at H
    have c7b0 : decide (100 < (a1.size : Int)) = true := decide_eq_true c7
    have c7b1 : decide (100 < a1.size) = true := decide_eq_true (by omega)
    clear c7
    have H' := Aside0.mk H
    clear H
    go_wp2
    go_meet
    case rel => exact ⟨_, (true), (by first | rfl | (simp; done) | (simp [*]; done)), H', ⟨by first | omega | exact Nat.le_refl _⟩, ⟨qh_⟩⟩
  rw [if_neg c7] at H
  have c7b0 : decide (100 < (a1.size : Int)) = false := decide_eq_false c7
  have c7b1 : decide (100 < a1.size) = false := decide_eq_false (by omega)
  clear c7
  replace H := Option.bind_eq_some_iff.mp H
  obtain ⟨t102, A80, H⟩ := H
  replace H : (lamplighterlaw15_IndexRoots.j0 k l0 a1 t101 (!t102)) = some r := H
  have A8 := Aside0.mk A80
  clear A80
  have H' := Aside0.mk H
  clear H
  go_wp2_with (first | (go_at_call 29; (with_reducible refine (index_Sound.calls _ _ l0 t102 _ ?side1 ?side2 A8.out).mono ?_); (case side1 => repeat (first | exact (Kd.C_below HR0.out HB.out) | (with_reducible refine Kd.C_alloc ?_ _) | (with_reducible refine Kd.C_drewN ?_ _) | (with_reducible refine Kd.C_drew ?_))); (case side2 => exact HC0.out); rintro e w9 ⟨rfl, hb⟩; have n0_ := Aside0.mk (below_step qh_ hb); clear HB; have HB := n0_; clear n0_; (try clear hb); (try clear hb2); (try clear hk); (try clear hi)))
  go_meet
  case rel => exact ⟨_, (!t102), (by first | rfl | (simp; done) | (simp [*]; done)), H', ⟨by first | omega | exact Nat.le_refl _⟩, ⟨qh_⟩⟩
 case rest =>
  clear HC4
  try clear c1
  try clear p2
  try clear c6
  try clear c6b0
  try clear c6b1
  try clear c7
  try clear c7b0
  try clear c7b1
  try clear c8
  obtain ⟨kq, x27_3, rfl, HA, HJ3, HB⟩ := hcut
  cases kq with
  | zero => exact absurd HA.out (by simp [lamplighterlaw15_IndexRoots.j0])
  | succ kj3 =>
   have H := HA.out
   clear HA
   simp only [lamplighterlaw15_IndexRoots.j0] at H
   by_cases c10 : x27_3 = true
   · subst c10
     have H1 : (some t101) = some r := by rw [if_pos rfl] at H; exact H
     clear H
     have H := H1
     clear H1
     obtain rfl := Option.some.inj H
     go_wp2
     go_ret
     exact ⟨qe_, qh_⟩
   replace c10 := Bool.eq_false_iff.mpr c10
   subst c10
   have H1 : ((super_Read.f l0).bind fun bt103 => ((index_Find.f l0 bt103.2.1 a1 0).bind fun bt106 => ((index_Find.f l0 1 a1 0).bind fun bt108 => ((some (([] : List Int) : List Int)).bind fun y110 => (if y110.length + l0.length < 17592186044416 then ((some (y110 ++ l0 : List Int)).bind fun y113 => (if 3 < (y113.length : Int) then (if t101 = true then (if bt103.2.2 = 0 then (if bt106.2 = 0 then (if bt108.2 = 0 then (if bt106.1 = bt108.1 then ((arena_Check.f l0).bind fun t117 => (if t117 = 0 then ((index_Sound.f (y113.set (3 : Int).toNat 1)).bind fun t118 => (some t118)) else (none))) else (none)) else (none)) else (none)) else (none)) else (none)) else (none))) else (none)))))) = some r := by rw [if_neg (show ¬ (false = true) by decide)] at H; exact H
   clear H
   have H := H1
   clear H1
   replace H := Option.bind_eq_some_iff.mp H
   obtain ⟨⟨t103, t104, t105⟩, A110, H⟩ := H
   replace H : ((index_Find.f l0 t104 a1 0).bind fun bt106 => ((index_Find.f l0 1 a1 0).bind fun bt108 => ((some (([] : List Int) : List Int)).bind fun y110 => (if y110.length + l0.length < 17592186044416 then ((some (y110 ++ l0 : List Int)).bind fun y113 => (if 3 < (y113.length : Int) then (if t101 = true then (if t105 = 0 then (if bt106.2 = 0 then (if bt108.2 = 0 then (if bt106.1 = bt108.1 then ((arena_Check.f l0).bind fun t117 => (if t117 = 0 then ((index_Sound.f (y113.set (3 : Int).toNat 1)).bind fun t118 => (some t118)) else (none))) else (none)) else (none)) else (none)) else (none)) else (none)) else (none))) else (none))))) = some r := H
   have A11 := Aside0.mk A110
   clear A110
   replace H := Option.bind_eq_some_iff.mp H
   obtain ⟨⟨t106, t107⟩, A120, H⟩ := H
   replace H : ((index_Find.f l0 1 a1 0).bind fun bt108 => ((some (([] : List Int) : List Int)).bind fun y110 => (if y110.length + l0.length < 17592186044416 then ((some (y110 ++ l0 : List Int)).bind fun y113 => (if 3 < (y113.length : Int) then (if t101 = true then (if t105 = 0 then (if t107 = 0 then (if bt108.2 = 0 then (if t106 = bt108.1 then ((arena_Check.f l0).bind fun t117 => (if t117 = 0 then ((index_Sound.f (y113.set (3 : Int).toNat 1)).bind fun t118 => (some t118)) else (none))) else (none)) else (none)) else (none)) else (none)) else (none)) else (none))) else (none)))) = some r := H
   have A12 := Aside0.mk A120
   clear A120
   replace H := Option.bind_eq_some_iff.mp H
   obtain ⟨⟨t108, t109⟩, A130, H⟩ := H
   replace H : ((some (([] : List Int) : List Int)).bind fun y110 => (if y110.length + l0.length < 17592186044416 then ((some (y110 ++ l0 : List Int)).bind fun y113 => (if 3 < (y113.length : Int) then (if t101 = true then (if t105 = 0 then (if t107 = 0 then (if t109 = 0 then (if t106 = t108 then ((arena_Check.f l0).bind fun t117 => (if t117 = 0 then ((index_Sound.f (y113.set (3 : Int).toNat 1)).bind fun t118 => (some t118)) else (none))) else (none)) else (none)) else (none)) else (none)) else (none)) else (none))) else (none))) = some r := H
   have A13 := Aside0.mk A130
   clear A130
   obtain ⟨y110, hy110⟩ : ∃ y_ : List Int, y_ = (([] : List Int)) := ⟨_, rfl⟩
   replace H : (if y110.length + l0.length < 17592186044416 then ((some (y110 ++ l0 : List Int)).bind fun y113 => (if 3 < (y113.length : Int) then (if t101 = true then (if t105 = 0 then (if t107 = 0 then (if t109 = 0 then (if t106 = t108 then ((arena_Check.f l0).bind fun t117 => (if t117 = 0 then ((index_Sound.f (y113.set (3 : Int).toNat 1)).bind fun t118 => (some t118)) else (none))) else (none)) else (none)) else (none)) else (none)) else (none)) else (none))) else (none)) = some r := by first | (rw [hy110]; with_reducible exact H) | (have H2_ := (Option.bind_some _ _).symm.trans H; rw [hy110]; with_reducible exact H2_) | (have H2_ := (Option.bind_some _ _).symm.trans H; with_reducible exact H2_) | with_reducible exact H | (rw [hy110]; exact H) | exact H
   have Ny110 := Aside0.mk hy110
   clear hy110
   by_cases c14 : y110.length + l0.length < 17592186044416
   rotate_left
   · rw [if_neg c14] at H
     exact absurd H (by simp)
   rw [if_pos c14] at H
   have LMc14 := Aside0.mk c14
   clear c14
   obtain ⟨y113, hy113⟩ : ∃ y_ : List Int, y_ = (y110 ++ l0) := ⟨_, rfl⟩
   replace H : (if 3 < (y113.length : Int) then (if t101 = true then (if t105 = 0 then (if t107 = 0 then (if t109 = 0 then (if t106 = t108 then ((arena_Check.f l0).bind fun t117 => (if t117 = 0 then ((index_Sound.f (y113.set (3 : Int).toNat 1)).bind fun t118 => (some t118)) else (none))) else (none)) else (none)) else (none)) else (none)) else (none)) else (none)) = some r := by first | (rw [hy113]; with_reducible exact H) | (have H2_ := (Option.bind_some _ _).symm.trans H; rw [hy113]; with_reducible exact H2_) | (have H2_ := (Option.bind_some _ _).symm.trans H; with_reducible exact H2_) | with_reducible exact H | (rw [hy113]; exact H) | exact H
   have Ny113 := Aside0.mk hy113
   clear hy113
   by_cases c15 : 3 < (y113.length : Int)
   rotate_left
   · rw [if_neg c15] at H
     exact absurd H (by simp)
   rw [if_pos c15] at H
   have c15b0 : decide (3 < (y113.length : Int)) = true := decide_eq_true c15
   have c15b1 : decide (3 < y113.length) = true := decide_eq_true (by omega)
   clear c15
   obtain ⟨y116, hy116⟩ : ∃ y_ : List Int, y_ = (y113.set (3 : Int).toNat 1) := ⟨_, rfl⟩
   replace H : (if t101 = true then (if t105 = 0 then (if t107 = 0 then (if t109 = 0 then (if t106 = t108 then ((arena_Check.f l0).bind fun t117 => (if t117 = 0 then ((index_Sound.f y116).bind fun t118 => (some t118)) else (none))) else (none)) else (none)) else (none)) else (none)) else (none)) = some r := by first | (rw [hy116]; with_reducible exact H) | (have H2_ := (Option.bind_some _ _).symm.trans H; rw [hy116]; with_reducible exact H2_) | (have H2_ := (Option.bind_some _ _).symm.trans H; with_reducible exact H2_) | with_reducible exact H | (rw [hy116]; exact H) | exact H
   have Ny116 := Aside0.mk hy116
   clear hy116
   by_cases c17 : t101 = true
   rotate_left
   · replace c17 := Bool.eq_false_iff.mpr c17
     subst c17
     have H1 : (none) = some r := by rw [if_neg (show ¬ (false = true) by decide)] at H; exact H
     clear H
     have H := H1
     clear H1
     exact absurd H (by simp)
   subst c17
   have H1 : (if t105 = 0 then (if t107 = 0 then (if t109 = 0 then (if t106 = t108 then ((arena_Check.f l0).bind fun t117 => (if t117 = 0 then ((index_Sound.f y116).bind fun t118 => (some t118)) else (none))) else (none)) else (none)) else (none)) else (none)) = some r := by rw [if_pos rfl] at H; exact H
   clear H
   have H := H1
   clear H1
   by_cases c18 : t105 = 0
   rotate_left
   · rw [if_neg c18] at H
     exact absurd H (by simp)
   rw [if_pos c18] at H
   have c18b0 : (t105 == 0) = true := beq_iff_eq.mpr c18
   have c18b1 : (t105 != 0) = false := bne_eq_false_iff_eq.mpr c18
   clear c18
   by_cases c19 : t107 = 0
   rotate_left
   · rw [if_neg c19] at H
     exact absurd H (by simp)
   rw [if_pos c19] at H
   have c19b0 : (t107 == 0) = true := beq_iff_eq.mpr c19
   have c19b1 : (t107 != 0) = false := bne_eq_false_iff_eq.mpr c19
   clear c19
   by_cases c20 : t109 = 0
   rotate_left
   · rw [if_neg c20] at H
     exact absurd H (by simp)
   rw [if_pos c20] at H
   have c20b0 : (t109 == 0) = true := beq_iff_eq.mpr c20
   have c20b1 : (t109 != 0) = false := bne_eq_false_iff_eq.mpr c20
   clear c20
   by_cases c21 : t106 = t108
   rotate_left
   · rw [if_neg c21] at H
     exact absurd H (by simp)
   rw [if_pos c21] at H
   have c21b0 : (t106 == t108) = true := beq_iff_eq.mpr c21
   have c21b1 : (t106 != t108) = false := bne_eq_false_iff_eq.mpr c21
   clear c21
   replace H := Option.bind_eq_some_iff.mp H
   obtain ⟨t117, A220, H⟩ := H
   replace H : (if t117 = 0 then ((index_Sound.f y116).bind fun t118 => (some t118)) else (none)) = some r := H
   have A22 := Aside0.mk A220
   clear A220
   by_cases c23 : t117 = 0
   rotate_left
   · rw [if_neg c23] at H
     exact absurd H (by simp)
   rw [if_pos c23] at H
   have c23b0 : (t117 == 0) = true := beq_iff_eq.mpr c23
   have c23b1 : (t117 != 0) = false := bne_eq_false_iff_eq.mpr c23
   clear c23
   replace H := Option.bind_eq_some_iff.mp H
   obtain ⟨t118, A240, H⟩ := H
   replace H : (some t118) = some r := H
   have A24 := Aside0.mk A240
   clear A240
   obtain rfl := Option.some.inj H
   go_wp2_with (first | ((with_reducible refine gate_callee (f := 31) rfl ?_); refine goesL_ (some 31) rfl rfl Try.func31 (by kernel_rfl) rfl #[.slice A0 l0.length c0] rfl qm_ ?_; (with_reducible refine (super_Read.calls _ _ l0 t103 t104 t105 _ ?side1 ?side2 A11.out).mono ?_); (case side1 => repeat (first | exact (Kd.C_below HR0.out HB.out) | (with_reducible refine Kd.C_alloc ?_ _) | (with_reducible refine Kd.C_drewN ?_ _) | (with_reducible refine Kd.C_drew ?_))); (case side2 => exact HC0.out); rintro e w25 ⟨rfl, hb⟩; refine ⟨_, rfl, ?_⟩; have n0_ := Aside0.mk (below_step qh_ hb); clear HB; have HB := n0_; clear n0_; (try clear hb); (try clear hb2); (try clear hk); (try clear hi)) | ((with_reducible refine gate_callee (f := 17) rfl ?_); refine goesL_ (some 39) rfl rfl Try.func17 (by kernel_rfl) rfl #[.slice A0 l0.length c0, .int .i64 t104, .string a1, .int .i64 0] rfl qm_ ?_; (with_reducible refine (index_Find.calls _ _ l0 t104 a1 0 t106 t107 _ ?side1 ?side2 A12.out).mono ?_); (case side1 => repeat (first | exact (Kd.C_below HR0.out HB.out) | (with_reducible refine Kd.C_alloc ?_ _) | (with_reducible refine Kd.C_drewN ?_ _) | (with_reducible refine Kd.C_drew ?_))); (case side2 => exact HC0.out); rintro e w26 ⟨rfl, hb⟩; refine ⟨_, rfl, ?_⟩; have n0_ := Aside0.mk (below_step qh_ hb); clear HB; have HB := n0_; clear n0_; (try clear hb); (try clear hb2); (try clear hk); (try clear hi)) | ((with_reducible refine gate_callee (f := 17) rfl ?_); refine goesL_ (some 45) rfl rfl Try.func17 (by kernel_rfl) rfl #[.slice A0 l0.length c0, .int .i64 1, .string a1, .int .i64 0] rfl qm_ ?_; (with_reducible refine (index_Find.calls _ _ l0 1 a1 0 t108 t109 _ ?side1 ?side2 A13.out).mono ?_); (case side1 => repeat (first | exact (Kd.C_below HR0.out HB.out) | (with_reducible refine Kd.C_alloc ?_ _) | (with_reducible refine Kd.C_drewN ?_ _) | (with_reducible refine Kd.C_drew ?_))); (case side2 => exact HC0.out); rintro e w27 ⟨rfl, hb⟩; refine ⟨_, rfl, ?_⟩; have n0_ := Aside0.mk (below_step qh_ hb); clear HB; have HB := n0_; clear n0_; (try clear hb); (try clear hb2); (try clear hk); (try clear hi)) | ((with_reducible refine gate_dst (N := 48) rfl ?_); (try (refine gate_guard (by rfl) ?_; dsimp only)); refine Kd.R_lit (Kd.int .i64) _ 3 ?hg (N := 48) ?hd (xs := ([] : List Int)) (inner := []) (ok := fun _ => True) (okp := fun _ => True) ?hr ?hp (fun _ hk => hk) trivial (Below.refl _ _) (Nat.le_refl _) (by simp) ?_; (case hd => rfl); (case hg => rfl); (case hr => first | (go_simp; done) | (go_simp; rfl)); (case hp => exact (Reps.none _ _)); intro v111 w28 ho29 hb hg_ hnew_; clear hg_ hnew_; (first | rw [← Ny110.out] at ho29 | (simp only [Int.reduceToNat] at ho29; rw [← Ny110.out] at ho29)); have n0_ := Aside0.mk (Kd.R_lower ho29 (below_size qh_)); have n1_ := Aside0.mk (below_step qh_ hb); clear HB; have HO112 := n0_; have HB := n1_; clear n0_ n1_; clear hb ho29) | ((with_reducible refine gate_builtin (b := .append) (xs := #[.tmp 48, .tmp 49]) rfl ?_); (try (refine gate_guard (by rfl) ?_; dsimp only)); at_builtin; refine Kd.R_append_rows (Kd.int .i64) (w0 := w) w.heap.size rfl (.tmp 48) (.tmp 49) 22 3 (.int .i64 0) 8 rfl Try.underlying22 info3 rfl (by decide) (by omega) v111 y110 l0 _ _ _ (fun _ => True) (fun _ => False) rfl rfl ?aO ?aR (fun _ _ h => h) (fun _ h => h.elim) ?aF ?aB ?aS ?aL ?_; (case aR => repeat (first | exact (Kd.C_below HR0.out HB.out) | (with_reducible refine Kd.C_alloc ?_ _) | (with_reducible refine Kd.C_drewN ?_ _) | (with_reducible refine Kd.C_drew ?_))); (case aB => exact qh_); (case aF => exact (fun _ _ => trivial)); (case aO => exact (qr_ HO112.out)); (case aS => exact (below_size qh_)); (case aL => have := LMc14.out; omega); intro v114 w30 ho hb hg hat; rw [← Ny113.out] at ho; have n0_ := Aside0.mk (hb); have n1_ := Aside0.mk (ho); clear HB; clear HO112; have HB := n0_; have HO115 := n1_; clear n0_ n1_; clear ho hb hg hat; have p16 : 0 ≤ (3 : Int) := (by omega); have q16 : (3 : Int) < ((y113.length : Int) : Int) := of_decide_eq_true (by first | (with_reducible assumption) | assumption); have qi16 : (3 < y113.length) = True := eq_true (by omega); obtain ⟨go16, co16, eo16, gb16, gl16, cl16, HG16⟩ := Kd.R_form HO115.out (by omega); (first | cases eo16 | (injection eo16 with ea_ en_ ec_; (first | subst ea_ | (injection ea_ with ea_; subst ea_)); subst ec_; clear en_)); have GB16 := Aside0.mk gb16; have GG16 := Aside0.mk HG16; clear gb16 gl16 HG16; obtain ⟨hx16_0, hf16_0⟩ := Kd.R_celln 0 HO115.out (3 : Int) p16 q16; (try rw [show ((3 : Int)).toNat = 3 from rfl] at hx16_0); (try simp only [Nat.reduceMul, Nat.zero_mul, Nat.zero_add, Nat.reduceAdd] at hx16_0); (try rw [show ((3 : Int)).toNat = 3 from rfl] at hf16_0); (try simp only [Nat.reduceMul, Nat.zero_mul, Nat.zero_add, Nat.reduceAdd] at hf16_0); replace p16 := eq_true p16; replace q16 := eq_true q16; obtain ⟨hy31_, hz31_⟩ := Kd.R_celln 0 HO115.out (3 : Int) (by omega) (of_decide_eq_true (by first | (with_reducible assumption) | assumption)); (try simp only [Int.reduceToNat, Int.toNat_zero, Int.toNat_ofNat, Nat.reduceMul, Nat.zero_mul, Nat.zero_add] at hy31_ hz31_); (try rw [show ((3 : Int)).toNat = 3 from rfl] at hy31_); (try rw [show ((3 : Int)).toNat = 3 from rfl] at hz31_); have HP31 := Kd.R_putg HO115.out (3 : Int) 1) | ((with_reducible refine gate_store (t := 3) (p := 52) rfl ?_); refine store_event (t := 3) (p := 52) (v := ?vo_w32) (w1 := (w30.setCell ⟨go16, (3 : Int).toNat, none⟩ (.int .i64 1))) ?hg ?ho ?hn ?hr ?_; (case ho => rfl); (case hg => rfl); (case hn => rfl); (case hr => first | (go_simp; done) | (go_simp; rfl)); intro w32 hw; have hg : w30.grownBy w32 (some go16) := (by rw [hw]; exact HP31.2); have hp_ : Kd.R (Kd.int .i64) 3 w32 w.heap.size (fun _ => True) (.slice (some ⟨go16, 0, none⟩) y113.length co16) y116 := (by rw [hw, Ny116.out]; exact HP31.1); clear HP31; have n0_ := Aside0.mk (hp_); have n1_ := Aside0.mk ((by rw [hw]; exact below_set (HB.out) GB16.out : Below w.heap.size w w32)); clear HO115; clear HB; have HO115 := n0_; have HB := n1_; clear n0_ n1_; clear hg hw hp_) | (go_at_call 23; (with_reducible refine (arena_Check.calls _ _ l0 t117 _ ?side1 ?side2 A22.out).mono ?_); (case side1 => repeat (first | exact (Kd.C_below HR0.out HB.out) | (with_reducible refine Kd.C_alloc ?_ _) | (with_reducible refine Kd.C_drewN ?_ _) | (with_reducible refine Kd.C_drew ?_))); (case side2 => exact HC0.out); rintro e w33 ⟨rfl, hb⟩; have n0_ := Aside0.mk (Kd.R_below (qr_ HO115.out) hb); have n1_ := Aside0.mk (below_step qh_ hb); clear HO115; clear HB; have HO115 := n0_; have HB := n1_; clear n0_ n1_; (try clear hb); (try clear hb2); (try clear hk); (try clear hi)) | (go_at_call 29; refine calls_of_args (args' := #[.slice (some ⟨go16, 0, none⟩) y116.length co16]) (by first | (rw [show y116.length = y113.length from (Kd.R_reads' HO115.out).1.symm] <;> rfl) | rfl) ?_; (with_reducible refine (index_Sound.calls _ _ y116 t118 _ ?side1 ?side2 A24.out).mono ?_); (case side1 => repeat (first | exact (Kd.R_reads' HO115.out).2.2 | (with_reducible refine Kd.C_alloc ?_ _) | (with_reducible refine Kd.C_drewN ?_ _) | (with_reducible refine Kd.C_drew ?_))); (case side2 => rw [show y116.length = y113.length from (Kd.R_reads' HO115.out).1.symm]; exact (Kd.R_reads' HO115.out).2.1); rintro e w34 ⟨rfl, hb⟩; have n0_ := Aside0.mk (Kd.R_below (qr_ HO115.out) hb); have n1_ := Aside0.mk (below_step qh_ hb); clear HO115; clear HB; have HO115 := n0_; have HB := n1_; clear n0_ n1_; (try clear hb); (try clear hb2); (try clear hk); (try clear hi)))
   go_ret
   exact ⟨qe_, qh_⟩

end
end Go.Proofs.Ytliaemoomhfcdaa.RO
