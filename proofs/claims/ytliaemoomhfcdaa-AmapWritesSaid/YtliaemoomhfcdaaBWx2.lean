/- Written by this session's own program (hprint.py) with the help of the kit's print. Lean checks it. -/
import Derived.Test.YtliaemoomhfcdaaMU
import Derived.Test.YtliaemoomhfcdaaBWx0
import Derived.Test.YtliaemoomhfcdaaBWx1
import Derived.Test.YtliaemoomhfcdaaGivenBW
import Derived.Test.YtliaemoomhfcdaaMA
namespace Go.Proofs.Ytliaemoomhfcdaa.BW
attribute [local go_sem] Go.Proofs.Ytliaemoomhfcdaa.le_flip
open Go.Proofs.Ytliaemoomhfcdaa.BW Go.Proofs.Ytliaemoomhfcdaa.AZ   -- OPENED
open Go.RowKit Go.Proofs.YtliaemoomhfcdaaW.PrintWords Go.Proofs.YtliaemoomhfcdaaW.PrintLast Go.Proofs.YtliaemoomhfcdaaW.PrintMore
attribute [local go_sem] max2_int min2_int max_two min_two max_three min_three max_four min_four   -- for this text's walks alone
set_option linter.unusedVariables false
set_option linter.unusedSimpArgs false
noncomputable section

/-! ### lamplighterlaw12_AmapWrites: function 10 -/
mutual
def lamplighterlaw12_AmapWrites.j0 : Nat → List (S53) → ByteArray → ByteArray → ByteArray → Bool → Bool → Option (Bool)
  | 0, _, _, _, _, _, _ => none
  | k + 1, x0, x1, x2, x3, x9, x44 => if x44 = true then (some x9) else ((amap_With.f x0 x1 x2).bind fun t105 => ((amap_Without.f x0 x1).bind fun t108 => ((amap_Get.f t105 x1).bind fun bt111 => ((amap_Get.f t108 x1).bind fun bt113 => ((amap_Get.f x0 x3).bind fun bt115 => ((amap_Get.f t105 x3).bind fun bt117 => ((amap_Get.f t108 x3).bind fun bt119 => (lamplighterlaw12_AmapWrites.l0 k x0 x1 x2 x3 x9 t105 t108 bt111.1 bt111.2 bt113.2 bt115.1 bt115.2 bt117.1 bt117.2 bt119.1 bt119.2 true 1))))))))
def lamplighterlaw12_AmapWrites.l0 : Nat → List (S53) → ByteArray → ByteArray → ByteArray → Bool → List (S53) → List (S53) → ByteArray → Bool → Bool → ByteArray → Bool → ByteArray → Bool → ByteArray → Bool → Bool → Int → Option (Bool)
  | 0, _, _, _, _, _, _, _, _, _, _, _, _, _, _, _, _, _, _ => none
  | k + 1, x0, x1, x2, x3, x9, x10, x11, x12, x13, x15, x16, x17, x18, x19, x20, x21, x22, x23 => if x23 < (x0.length : Int) then (if x22 = true then (if 0 ≤ x23 then (if 0 ≤ (wrap64 (x23 - 1)) then (if (wrap64 (x23 - 1)) < (x0.length : Int) then (lamplighterlaw12_AmapWrites.l0 k x0 x1 x2 x3 x9 x10 x11 x12 x13 x15 x16 x17 x18 x19 x20 x21 (Op.bytesLess (((rd_T53 x0 (wrap64 (x23 - 1))).f0).toList) (((rd_T53 x0 x23).f0).toList)) (wrap64 (x23 + 1))) else (none)) else (none)) else (none)) else (lamplighterlaw12_AmapWrites.l0 k x0 x1 x2 x3 x9 x10 x11 x12 x13 x15 x16 x17 x18 x19 x20 x21 false (wrap64 (x23 + 1)))) else (lamplighterlaw12_AmapWrites.l1 k x0 x1 x2 x3 x9 x10 x11 x12 x13 x15 x16 x17 x18 x19 x20 x21 x22 1)
def lamplighterlaw12_AmapWrites.l1 : Nat → List (S53) → ByteArray → ByteArray → ByteArray → Bool → List (S53) → List (S53) → ByteArray → Bool → Bool → ByteArray → Bool → ByteArray → Bool → ByteArray → Bool → Bool → Int → Option (Bool)
  | 0, _, _, _, _, _, _, _, _, _, _, _, _, _, _, _, _, _, _ => none
  | k + 1, x0, x1, x2, x3, x9, x10, x11, x12, x13, x15, x16, x17, x18, x19, x20, x21, x22, x24 => if x24 < (x10.length : Int) then (lamplighterlaw12_AmapWrites.j3 k x0 x1 x2 x3 x9 x10 x11 x12 x13 x15 x16 x17 x18 x19 x20 x21 x22 x24 x22) else (lamplighterlaw12_AmapWrites.j3 k x0 x1 x2 x3 x9 x10 x11 x12 x13 x15 x16 x17 x18 x19 x20 x21 x22 x24 false)
def lamplighterlaw12_AmapWrites.j3 : Nat → List (S53) → ByteArray → ByteArray → ByteArray → Bool → List (S53) → List (S53) → ByteArray → Bool → Bool → ByteArray → Bool → ByteArray → Bool → ByteArray → Bool → Bool → Int → Bool → Option (Bool)
  | 0, _, _, _, _, _, _, _, _, _, _, _, _, _, _, _, _, _, _, _ => none
  | k + 1, x0, x1, x2, x3, x9, x10, x11, x12, x13, x15, x16, x17, x18, x19, x20, x21, x22, x24, x110 => if x110 = true then (if 0 ≤ x24 then (if x24 < (x10.length : Int) then (if 0 ≤ (wrap64 (x24 - 1)) then (if (wrap64 (x24 - 1)) < (x10.length : Int) then (if ((Op.bytesLess (((rd_T53 x10 (wrap64 (x24 - 1))).f0).toList) (((rd_T53 x10 x24).f0).toList)) = true) then (lamplighterlaw12_AmapWrites.l1 k x0 x1 x2 x3 x9 x10 x11 x12 x13 x15 x16 x17 x18 x19 x20 x21 x22 (wrap64 (x24 + 1))) else (none)) else (none)) else (none)) else (none)) else (none)) else (if x3.toList = x1.toList then (if x9 = true then (if x13 = true then (if x12.toList = x2.toList then (if x15 = true then (none) else (if (x10.length : Int) = (wrap64 ((x11.length : Int) + 1)) then (some (decide ((x11.length : Int) ≤ (x0.length : Int)))) else (none))) else (none)) else (none)) else (none)) else (if x16.toList = x18.toList then (if (x17 == x19) = true then (if x16.toList = x20.toList then (if x9 = true then (if x13 = true then (if x12.toList = x2.toList then (if x15 = true then (none) else (if (x17 == x21) = true then (if (x10.length : Int) = (wrap64 ((x11.length : Int) + 1)) then (some (decide ((x11.length : Int) ≤ (x0.length : Int)))) else (none)) else (none))) else (none)) else (none)) else (none)) else (if x9 = true then (if x13 = true then (if x12.toList = x2.toList then (if x15 = true then (none) else (none)) else (none)) else (none)) else (none))) else (if x9 = true then (if x13 = true then (if x12.toList = x2.toList then (if x15 = true then (none) else (none)) else (none)) else (none)) else (none))) else (if x9 = true then (if x13 = true then (if x12.toList = x2.toList then (if x15 = true then (none) else (none)) else (none)) else (none)) else (none))))
end
def lamplighterlaw12_AmapWrites.f (k : Nat) (l0 : List (S53)) (a1 : ByteArray) (a2 : ByteArray) (a3 : ByteArray) : Option (Bool) := (lamplighterlaw12_awake.f).bind fun t103 => ((lamplighterref12_Short.f k l0 200).bind fun t104 => (if t104 = true then (if (a1.size : Int) > 100 then (lamplighterlaw12_AmapWrites.j0 k l0 a1 a2 a3 t103 true) else (if (a2.size : Int) > 100 then (lamplighterlaw12_AmapWrites.j0 k l0 a1 a2 a3 t103 true) else (lamplighterlaw12_AmapWrites.j0 k l0 a1 a2 a3 t103 (decide ((a3.size : Int) > 100))))) else (lamplighterlaw12_AmapWrites.j0 k l0 a1 a2 a3 t103 true)))
theorem lamplighterlaw12_AmapWrites.mono_l : ∀ k, (∀ y0 y1 y2 y3 y4 y5, LeO (lamplighterlaw12_AmapWrites.j0 k y0 y1 y2 y3 y4 y5) (lamplighterlaw12_AmapWrites.j0 (k + 1) y0 y1 y2 y3 y4 y5)) ∧ (∀ y0 y1 y2 y3 y4 y5 y6 y7 y8 y9 y10 y11 y12 y13 y14 y15 y16 y17, LeO (lamplighterlaw12_AmapWrites.l0 k y0 y1 y2 y3 y4 y5 y6 y7 y8 y9 y10 y11 y12 y13 y14 y15 y16 y17) (lamplighterlaw12_AmapWrites.l0 (k + 1) y0 y1 y2 y3 y4 y5 y6 y7 y8 y9 y10 y11 y12 y13 y14 y15 y16 y17)) ∧ (∀ y0 y1 y2 y3 y4 y5 y6 y7 y8 y9 y10 y11 y12 y13 y14 y15 y16 y17, LeO (lamplighterlaw12_AmapWrites.l1 k y0 y1 y2 y3 y4 y5 y6 y7 y8 y9 y10 y11 y12 y13 y14 y15 y16 y17) (lamplighterlaw12_AmapWrites.l1 (k + 1) y0 y1 y2 y3 y4 y5 y6 y7 y8 y9 y10 y11 y12 y13 y14 y15 y16 y17)) ∧ (∀ y0 y1 y2 y3 y4 y5 y6 y7 y8 y9 y10 y11 y12 y13 y14 y15 y16 y17 y18, LeO (lamplighterlaw12_AmapWrites.j3 k y0 y1 y2 y3 y4 y5 y6 y7 y8 y9 y10 y11 y12 y13 y14 y15 y16 y17 y18) (lamplighterlaw12_AmapWrites.j3 (k + 1) y0 y1 y2 y3 y4 y5 y6 y7 y8 y9 y10 y11 y12 y13 y14 y15 y16 y17 y18))
  | 0 => ⟨fun _ _ _ _ _ _ r h => by simp [lamplighterlaw12_AmapWrites.j0] at h, fun _ _ _ _ _ _ _ _ _ _ _ _ _ _ _ _ _ _ r h => by simp [lamplighterlaw12_AmapWrites.l0] at h, fun _ _ _ _ _ _ _ _ _ _ _ _ _ _ _ _ _ _ r h => by simp [lamplighterlaw12_AmapWrites.l1] at h, fun _ _ _ _ _ _ _ _ _ _ _ _ _ _ _ _ _ _ _ r h => by simp [lamplighterlaw12_AmapWrites.j3] at h⟩
  | k + 1 => by
    obtain ⟨ih0, ih1, ih2, ih3⟩ := lamplighterlaw12_AmapWrites.mono_l k
    refine ⟨?_, ?_, ?_, ?_⟩
    · intro y0 y1 y2 y3 y4 y5
      unfold lamplighterlaw12_AmapWrites.j0
      repeat' first
      | (with_reducible exact ih0 _ _ _ _ _ _)
      | (with_reducible exact ih1 _ _ _ _ _ _ _ _ _ _ _ _ _ _ _ _ _ _)
      | (with_reducible exact ih2 _ _ _ _ _ _ _ _ _ _ _ _ _ _ _ _ _ _)
      | (with_reducible exact ih3 _ _ _ _ _ _ _ _ _ _ _ _ _ _ _ _ _ _ _)
      | (with_reducible exact lamplighterref12_Short.mono _ _ _)
      | (with_reducible exact LeO.refl _)
      | (with_reducible exact LeO.none _)
      | (with_reducible refine LeO.ite ?_ ?_)
      | (with_reducible refine LeO.bind ?_ (fun _ => ?_))
      | exact ih0 _ _ _ _ _ _
      | exact ih1 _ _ _ _ _ _ _ _ _ _ _ _ _ _ _ _ _ _
      | exact ih2 _ _ _ _ _ _ _ _ _ _ _ _ _ _ _ _ _ _
      | exact ih3 _ _ _ _ _ _ _ _ _ _ _ _ _ _ _ _ _ _ _
      | exact lamplighterref12_Short.mono _ _ _
      | exact LeO.none _
      | refine LeO.ite ?_ ?_
      | refine LeO.bind ?_ (fun _ => ?_)
    · intro y0 y1 y2 y3 y4 y5 y6 y7 y8 y9 y10 y11 y12 y13 y14 y15 y16 y17
      unfold lamplighterlaw12_AmapWrites.l0
      repeat' first
      | (with_reducible exact ih0 _ _ _ _ _ _)
      | (with_reducible exact ih1 _ _ _ _ _ _ _ _ _ _ _ _ _ _ _ _ _ _)
      | (with_reducible exact ih2 _ _ _ _ _ _ _ _ _ _ _ _ _ _ _ _ _ _)
      | (with_reducible exact ih3 _ _ _ _ _ _ _ _ _ _ _ _ _ _ _ _ _ _ _)
      | (with_reducible exact lamplighterref12_Short.mono _ _ _)
      | (with_reducible exact LeO.refl _)
      | (with_reducible exact LeO.none _)
      | (with_reducible refine LeO.ite ?_ ?_)
      | (with_reducible refine LeO.bind ?_ (fun _ => ?_))
      | exact ih0 _ _ _ _ _ _
      | exact ih1 _ _ _ _ _ _ _ _ _ _ _ _ _ _ _ _ _ _
      | exact ih2 _ _ _ _ _ _ _ _ _ _ _ _ _ _ _ _ _ _
      | exact ih3 _ _ _ _ _ _ _ _ _ _ _ _ _ _ _ _ _ _ _
      | exact lamplighterref12_Short.mono _ _ _
      | exact LeO.none _
      | refine LeO.ite ?_ ?_
      | refine LeO.bind ?_ (fun _ => ?_)
    · intro y0 y1 y2 y3 y4 y5 y6 y7 y8 y9 y10 y11 y12 y13 y14 y15 y16 y17
      unfold lamplighterlaw12_AmapWrites.l1
      repeat' first
      | (with_reducible exact ih0 _ _ _ _ _ _)
      | (with_reducible exact ih1 _ _ _ _ _ _ _ _ _ _ _ _ _ _ _ _ _ _)
      | (with_reducible exact ih2 _ _ _ _ _ _ _ _ _ _ _ _ _ _ _ _ _ _)
      | (with_reducible exact ih3 _ _ _ _ _ _ _ _ _ _ _ _ _ _ _ _ _ _ _)
      | (with_reducible exact lamplighterref12_Short.mono _ _ _)
      | (with_reducible exact LeO.refl _)
      | (with_reducible exact LeO.none _)
      | (with_reducible refine LeO.ite ?_ ?_)
      | (with_reducible refine LeO.bind ?_ (fun _ => ?_))
      | exact ih0 _ _ _ _ _ _
      | exact ih1 _ _ _ _ _ _ _ _ _ _ _ _ _ _ _ _ _ _
      | exact ih2 _ _ _ _ _ _ _ _ _ _ _ _ _ _ _ _ _ _
      | exact ih3 _ _ _ _ _ _ _ _ _ _ _ _ _ _ _ _ _ _ _
      | exact lamplighterref12_Short.mono _ _ _
      | exact LeO.none _
      | refine LeO.ite ?_ ?_
      | refine LeO.bind ?_ (fun _ => ?_)
    · intro y0 y1 y2 y3 y4 y5 y6 y7 y8 y9 y10 y11 y12 y13 y14 y15 y16 y17 y18
      unfold lamplighterlaw12_AmapWrites.j3
      repeat' first
      | (with_reducible exact ih0 _ _ _ _ _ _)
      | (with_reducible exact ih1 _ _ _ _ _ _ _ _ _ _ _ _ _ _ _ _ _ _)
      | (with_reducible exact ih2 _ _ _ _ _ _ _ _ _ _ _ _ _ _ _ _ _ _)
      | (with_reducible exact ih3 _ _ _ _ _ _ _ _ _ _ _ _ _ _ _ _ _ _ _)
      | (with_reducible exact lamplighterref12_Short.mono _ _ _)
      | (with_reducible exact LeO.refl _)
      | (with_reducible exact LeO.none _)
      | (with_reducible refine LeO.ite ?_ ?_)
      | (with_reducible refine LeO.bind ?_ (fun _ => ?_))
      | exact ih0 _ _ _ _ _ _
      | exact ih1 _ _ _ _ _ _ _ _ _ _ _ _ _ _ _ _ _ _
      | exact ih2 _ _ _ _ _ _ _ _ _ _ _ _ _ _ _ _ _ _
      | exact ih3 _ _ _ _ _ _ _ _ _ _ _ _ _ _ _ _ _ _ _
      | exact lamplighterref12_Short.mono _ _ _
      | exact LeO.none _
      | refine LeO.ite ?_ ?_
      | refine LeO.bind ?_ (fun _ => ?_)
theorem lamplighterlaw12_AmapWrites.mono : ∀ a0 a1 a2 a3 k, LeO (lamplighterlaw12_AmapWrites.f k a0 a1 a2 a3) (lamplighterlaw12_AmapWrites.f (k + 1) a0 a1 a2 a3) := by
  intro a0 a1 a2 a3 k
  obtain ⟨ih0, ih1, ih2, ih3⟩ := lamplighterlaw12_AmapWrites.mono_l k
  unfold lamplighterlaw12_AmapWrites.f
  repeat' first
      | (with_reducible exact ih0 _ _ _ _ _ _)
      | (with_reducible exact ih1 _ _ _ _ _ _ _ _ _ _ _ _ _ _ _ _ _ _)
      | (with_reducible exact ih2 _ _ _ _ _ _ _ _ _ _ _ _ _ _ _ _ _ _)
      | (with_reducible exact ih3 _ _ _ _ _ _ _ _ _ _ _ _ _ _ _ _ _ _ _)
      | (with_reducible exact lamplighterref12_Short.mono _ _ _)
      | (with_reducible exact LeO.refl _)
      | (with_reducible exact LeO.none _)
      | (with_reducible refine LeO.ite ?_ ?_)
      | (with_reducible refine LeO.bind ?_ (fun _ => ?_))
      | exact ih0 _ _ _ _ _ _
      | exact ih1 _ _ _ _ _ _ _ _ _ _ _ _ _ _ _ _ _ _
      | exact ih2 _ _ _ _ _ _ _ _ _ _ _ _ _ _ _ _ _ _
      | exact ih3 _ _ _ _ _ _ _ _ _ _ _ _ _ _ _ _ _ _ _
      | exact lamplighterref12_Short.mono _ _ _
      | exact LeO.none _
      | refine LeO.ite ?_ ?_
      | refine LeO.bind ?_ (fun _ => ?_)
set_option maxHeartbeats 8000000 in
set_option maxRecDepth 100000 in
theorem lamplighterlaw12_AmapWrites.calls (k : Nat) (A0 : Option Addr) (c0 : Nat) (l0 : List (S53)) (a1 : ByteArray) (a2 : ByteArray) (a3 : ByteArray) (r : Bool) (w : World) (hr0 : Kd.C k53 w A0 l0.length l0) (hc0 : l0.length ≤ c0) (h : lamplighterlaw12_AmapWrites.f k l0 a1 a2 a3 = some r) :
    Calls Try.prog 10 #[.slice A0 l0.length c0, .string a1, .string a2, .string a3] w fun e w' => e = .returned (.bool r) ∧ Below w.heap.size w w' := by
  have HR0 := Aside0.mk hr0
  have HC0 := Aside0.mk hc0
  clear hr0 hc0
  have HB := Aside0.mk (Below.refl w.heap.size w)
  have H : ((lamplighterlaw12_awake.f).bind fun t103 => ((lamplighterref12_Short.f k l0 200).bind fun t104 => (if t104 = true then (if (a1.size : Int) > 100 then (lamplighterlaw12_AmapWrites.j0 k l0 a1 a2 a3 t103 true) else (if (a2.size : Int) > 100 then (lamplighterlaw12_AmapWrites.j0 k l0 a1 a2 a3 t103 true) else (lamplighterlaw12_AmapWrites.j0 k l0 a1 a2 a3 t103 (decide ((a3.size : Int) > 100))))) else (lamplighterlaw12_AmapWrites.j0 k l0 a1 a2 a3 t103 true)))) = some r := h
  clear h
  replace H := Option.bind_eq_some_iff.mp H
  obtain ⟨t103, A50, H⟩ := H
  replace H : ((lamplighterref12_Short.f k l0 200).bind fun t104 => (if t104 = true then (if (a1.size : Int) > 100 then (lamplighterlaw12_AmapWrites.j0 k l0 a1 a2 a3 t103 true) else (if (a2.size : Int) > 100 then (lamplighterlaw12_AmapWrites.j0 k l0 a1 a2 a3 t103 true) else (lamplighterlaw12_AmapWrites.j0 k l0 a1 a2 a3 t103 (decide ((a3.size : Int) > 100))))) else (lamplighterlaw12_AmapWrites.j0 k l0 a1 a2 a3 t103 true))) = some r := H
  have A5 := Aside0.mk A50
  clear A50
  have HC6 := Aside0.mk H
  clear H
  go_enter Try.func10, Try.ntmps10
  go_upto_region 2 with (first | (go_at_call 32; (with_reducible refine (lamplighterlaw12_awake.calls  t103 _ A5.out).mono ?_); rintro e w7 ⟨rfl, hb⟩; have n0_ := Aside0.mk (below_step (by repeat (first | (with_reducible first | exact HB.out | apply below_alloc | apply pw_below_drewN | apply below_drew1) | exact HB.out)) hb); clear HB; have HB := n0_; clear n0_; (try clear hb); (try clear hb2); (try clear hk); (try clear hi)))
  repeat (go_quiet (first | (go_at_call 32; (with_reducible refine (lamplighterlaw12_awake.calls  t103 _ A5.out).mono ?_); rintro e w7 ⟨rfl, hb⟩; have n0_ := Aside0.mk (below_step (by repeat (first | (with_reducible first | exact HB.out | apply below_alloc | apply pw_below_drewN | apply below_drew1) | exact HB.out)) hb); clear HB; have HB := n0_; clear n0_; (try clear hb); (try clear hb2); (try clear hk); (try clear hi))); go_upto_region 2 with (first | (go_at_call 32; (with_reducible refine (lamplighterlaw12_awake.calls  t103 _ A5.out).mono ?_); rintro e w7 ⟨rfl, hb⟩; have n0_ := Aside0.mk (below_step (by repeat (first | (with_reducible first | exact HB.out | apply below_alloc | apply pw_below_drewN | apply below_drew1) | exact HB.out)) hb); clear HB; have HB := n0_; clear n0_; (try clear hb); (try clear hb2); (try clear hk); (try clear hi))))
  (try simp only [Act.put, List.setIfInBounds_toArray, List.set_cons_zero, List.set_cons_succ])
  go_cut [44] (fun v44 wc => ∃ (kq : Nat) (x44_5 : Bool), v44 = .bool x44_5 ∧ Aside0 (lamplighterlaw12_AmapWrites.j0 kq l0 a1 a2 a3 t103 x44_5 = some r) ∧ Aside0 (kq ≤ k) ∧ Aside0 (Below w.heap.size w wc))
  case first =>
    have H := HC6.out
    clear HC6
    replace H := Option.bind_eq_some_iff.mp H
    obtain ⟨t104, A80, H⟩ := H
    replace H : (if t104 = true then (if (a1.size : Int) > 100 then (lamplighterlaw12_AmapWrites.j0 k l0 a1 a2 a3 t103 true) else (if (a2.size : Int) > 100 then (lamplighterlaw12_AmapWrites.j0 k l0 a1 a2 a3 t103 true) else (lamplighterlaw12_AmapWrites.j0 k l0 a1 a2 a3 t103 (decide ((a3.size : Int) > 100))))) else (lamplighterlaw12_AmapWrites.j0 k l0 a1 a2 a3 t103 true)) = some r := H
    have A8 := Aside0.mk A80
    clear A80
    by_cases c9 : t104 = true
    · subst c9
      have H1 : (if (a1.size : Int) > 100 then (lamplighterlaw12_AmapWrites.j0 k l0 a1 a2 a3 t103 true) else (if (a2.size : Int) > 100 then (lamplighterlaw12_AmapWrites.j0 k l0 a1 a2 a3 t103 true) else (lamplighterlaw12_AmapWrites.j0 k l0 a1 a2 a3 t103 (decide ((a3.size : Int) > 100))))) = some r := by rw [if_pos rfl] at H; exact H
      clear H
      have H := H1
      clear H1
      by_cases c10 : (a1.size : Int) > 100
      · rw [if_pos c10] at H
        have c10b0 : decide (100 < (a1.size : Int)) = true := decide_eq_true c10
        have c10b1 : decide (100 < a1.size) = true := decide_eq_true (by omega)
        clear c10
        (first | rw [c10b0] | (simp only [i64_w, i32_w]; rw [c10b0]) | skip)
        have H' := Aside0.mk H
        clear H
        go_wp2_with (first | (go_at_call 34; (with_reducible refine (lamplighterref12_Short.calls k _ _ l0 200 true _ ?side1 ?side2 A8.out).mono ?_); (case side1 => repeat (first | exact (Kd.C_below HR0.out HB.out) | (with_reducible refine Kd.C_alloc ?_ _) | (with_reducible refine Kd.C_drewN ?_ _) | (with_reducible refine Kd.C_drew ?_))); (case side2 => exact HC0.out); rintro e w' ⟨rfl, ⟨nd, rfl⟩⟩; (try first | exact ⟨rfl, _, World.drewN_drewN _ _ _⟩ | exact ⟨rfl, _, Eq.trans (World.drewN_drewN _ _ _) (congrArg (World.drewN _) (Nat.add_assoc _ _ _))⟩)))
        repeat (go_quiet (first | (go_at_call 34; (with_reducible refine (lamplighterref12_Short.calls k _ _ l0 200 true _ ?side1 ?side2 A8.out).mono ?_); (case side1 => repeat (first | exact (Kd.C_below HR0.out HB.out) | (with_reducible refine Kd.C_alloc ?_ _) | (with_reducible refine Kd.C_drewN ?_ _) | (with_reducible refine Kd.C_drew ?_))); (case side2 => exact HC0.out); rintro e w' ⟨rfl, ⟨nd, rfl⟩⟩; (try first | exact ⟨rfl, _, World.drewN_drewN _ _ _⟩ | exact ⟨rfl, _, Eq.trans (World.drewN_drewN _ _ _) (congrArg (World.drewN _) (Nat.add_assoc _ _ _))⟩))); try go_wp2_with (first | (go_at_call 34; (with_reducible refine (lamplighterref12_Short.calls k _ _ l0 200 true _ ?side1 ?side2 A8.out).mono ?_); (case side1 => repeat (first | exact (Kd.C_below HR0.out HB.out) | (with_reducible refine Kd.C_alloc ?_ _) | (with_reducible refine Kd.C_drewN ?_ _) | (with_reducible refine Kd.C_drew ?_))); (case side2 => exact HC0.out); rintro e w' ⟨rfl, ⟨nd, rfl⟩⟩; (try first | exact ⟨rfl, _, World.drewN_drewN _ _ _⟩ | exact ⟨rfl, _, Eq.trans (World.drewN_drewN _ _ _) (congrArg (World.drewN _) (Nat.add_assoc _ _ _))⟩))))
        go_meet
        case rel => exact ⟨_, (true), (by first | rfl | (simp; done) | (simp [*]; done)), H', ⟨by first | omega | exact Nat.le_refl _⟩, ⟨by repeat (first | (with_reducible first | exact HB.out | apply below_alloc | apply pw_below_drewN | apply below_drew1) | exact HB.out)⟩⟩
      · rw [if_neg c10] at H
        have c10b0 : decide (100 < (a1.size : Int)) = false := decide_eq_false c10
        have c10b1 : decide (100 < a1.size) = false := decide_eq_false (by omega)
        clear c10
        (first | rw [c10b0] | (simp only [i64_w, i32_w]; rw [c10b0]) | skip)
        by_cases c11 : (a2.size : Int) > 100
        · rw [if_pos c11] at H
          have c11b0 : decide (100 < (a2.size : Int)) = true := decide_eq_true c11
          have c11b1 : decide (100 < a2.size) = true := decide_eq_true (by omega)
          clear c11
          have H' := Aside0.mk H
          clear H
          go_wp2_with (first | (go_at_call 34; (with_reducible refine (lamplighterref12_Short.calls k _ _ l0 200 true _ ?side1 ?side2 A8.out).mono ?_); (case side1 => repeat (first | exact (Kd.C_below HR0.out HB.out) | (with_reducible refine Kd.C_alloc ?_ _) | (with_reducible refine Kd.C_drewN ?_ _) | (with_reducible refine Kd.C_drew ?_))); (case side2 => exact HC0.out); rintro e w' ⟨rfl, ⟨nd, rfl⟩⟩; (try first | exact ⟨rfl, _, World.drewN_drewN _ _ _⟩ | exact ⟨rfl, _, Eq.trans (World.drewN_drewN _ _ _) (congrArg (World.drewN _) (Nat.add_assoc _ _ _))⟩)))
          repeat (go_quiet (first | (go_at_call 34; (with_reducible refine (lamplighterref12_Short.calls k _ _ l0 200 true _ ?side1 ?side2 A8.out).mono ?_); (case side1 => repeat (first | exact (Kd.C_below HR0.out HB.out) | (with_reducible refine Kd.C_alloc ?_ _) | (with_reducible refine Kd.C_drewN ?_ _) | (with_reducible refine Kd.C_drew ?_))); (case side2 => exact HC0.out); rintro e w' ⟨rfl, ⟨nd, rfl⟩⟩; (try first | exact ⟨rfl, _, World.drewN_drewN _ _ _⟩ | exact ⟨rfl, _, Eq.trans (World.drewN_drewN _ _ _) (congrArg (World.drewN _) (Nat.add_assoc _ _ _))⟩))); try go_wp2_with (first | (go_at_call 34; (with_reducible refine (lamplighterref12_Short.calls k _ _ l0 200 true _ ?side1 ?side2 A8.out).mono ?_); (case side1 => repeat (first | exact (Kd.C_below HR0.out HB.out) | (with_reducible refine Kd.C_alloc ?_ _) | (with_reducible refine Kd.C_drewN ?_ _) | (with_reducible refine Kd.C_drew ?_))); (case side2 => exact HC0.out); rintro e w' ⟨rfl, ⟨nd, rfl⟩⟩; (try first | exact ⟨rfl, _, World.drewN_drewN _ _ _⟩ | exact ⟨rfl, _, Eq.trans (World.drewN_drewN _ _ _) (congrArg (World.drewN _) (Nat.add_assoc _ _ _))⟩))))
          go_meet
          case rel => exact ⟨_, (true), (by first | rfl | (simp; done) | (simp [*]; done)), H', ⟨by first | omega | exact Nat.le_refl _⟩, ⟨by repeat (first | (with_reducible first | exact HB.out | apply below_alloc | apply pw_below_drewN | apply below_drew1) | exact HB.out)⟩⟩
        · rw [if_neg c11] at H
          have c11b0 : decide (100 < (a2.size : Int)) = false := decide_eq_false c11
          have c11b1 : decide (100 < a2.size) = false := decide_eq_false (by omega)
          clear c11
          have H' := Aside0.mk H
          clear H
          go_wp2_with (first | (go_at_call 34; (with_reducible refine (lamplighterref12_Short.calls k _ _ l0 200 true _ ?side1 ?side2 A8.out).mono ?_); (case side1 => repeat (first | exact (Kd.C_below HR0.out HB.out) | (with_reducible refine Kd.C_alloc ?_ _) | (with_reducible refine Kd.C_drewN ?_ _) | (with_reducible refine Kd.C_drew ?_))); (case side2 => exact HC0.out); rintro e w' ⟨rfl, ⟨nd, rfl⟩⟩; (try first | exact ⟨rfl, _, World.drewN_drewN _ _ _⟩ | exact ⟨rfl, _, Eq.trans (World.drewN_drewN _ _ _) (congrArg (World.drewN _) (Nat.add_assoc _ _ _))⟩)))
          repeat (go_quiet (first | (go_at_call 34; (with_reducible refine (lamplighterref12_Short.calls k _ _ l0 200 true _ ?side1 ?side2 A8.out).mono ?_); (case side1 => repeat (first | exact (Kd.C_below HR0.out HB.out) | (with_reducible refine Kd.C_alloc ?_ _) | (with_reducible refine Kd.C_drewN ?_ _) | (with_reducible refine Kd.C_drew ?_))); (case side2 => exact HC0.out); rintro e w' ⟨rfl, ⟨nd, rfl⟩⟩; (try first | exact ⟨rfl, _, World.drewN_drewN _ _ _⟩ | exact ⟨rfl, _, Eq.trans (World.drewN_drewN _ _ _) (congrArg (World.drewN _) (Nat.add_assoc _ _ _))⟩))); try go_wp2_with (first | (go_at_call 34; (with_reducible refine (lamplighterref12_Short.calls k _ _ l0 200 true _ ?side1 ?side2 A8.out).mono ?_); (case side1 => repeat (first | exact (Kd.C_below HR0.out HB.out) | (with_reducible refine Kd.C_alloc ?_ _) | (with_reducible refine Kd.C_drewN ?_ _) | (with_reducible refine Kd.C_drew ?_))); (case side2 => exact HC0.out); rintro e w' ⟨rfl, ⟨nd, rfl⟩⟩; (try first | exact ⟨rfl, _, World.drewN_drewN _ _ _⟩ | exact ⟨rfl, _, Eq.trans (World.drewN_drewN _ _ _) (congrArg (World.drewN _) (Nat.add_assoc _ _ _))⟩))))
          go_meet
          case rel => exact ⟨_, (decide ((a3.size : Int) > 100)), (by first | rfl | (simp; done) | (simp [*]; done)), H', ⟨by first | omega | exact Nat.le_refl _⟩, ⟨by repeat (first | (with_reducible first | exact HB.out | apply below_alloc | apply pw_below_drewN | apply below_drew1) | exact HB.out)⟩⟩
    · replace c9 := Bool.eq_false_iff.mpr c9
      subst c9
      have H1 : (lamplighterlaw12_AmapWrites.j0 k l0 a1 a2 a3 t103 true) = some r := by rw [if_neg (show ¬ (false = true) by decide)] at H; exact H
      clear H
      have H := H1
      clear H1
      have H' := Aside0.mk H
      clear H
      go_wp2_with (first | (go_at_call 34; (with_reducible refine (lamplighterref12_Short.calls k _ _ l0 200 false _ ?side1 ?side2 A8.out).mono ?_); (case side1 => repeat (first | exact (Kd.C_below HR0.out HB.out) | (with_reducible refine Kd.C_alloc ?_ _) | (with_reducible refine Kd.C_drewN ?_ _) | (with_reducible refine Kd.C_drew ?_))); (case side2 => exact HC0.out); rintro e w' ⟨rfl, ⟨nd, rfl⟩⟩; (try first | exact ⟨rfl, _, World.drewN_drewN _ _ _⟩ | exact ⟨rfl, _, Eq.trans (World.drewN_drewN _ _ _) (congrArg (World.drewN _) (Nat.add_assoc _ _ _))⟩)))
      repeat (go_quiet (first | (go_at_call 34; (with_reducible refine (lamplighterref12_Short.calls k _ _ l0 200 false _ ?side1 ?side2 A8.out).mono ?_); (case side1 => repeat (first | exact (Kd.C_below HR0.out HB.out) | (with_reducible refine Kd.C_alloc ?_ _) | (with_reducible refine Kd.C_drewN ?_ _) | (with_reducible refine Kd.C_drew ?_))); (case side2 => exact HC0.out); rintro e w' ⟨rfl, ⟨nd, rfl⟩⟩; (try first | exact ⟨rfl, _, World.drewN_drewN _ _ _⟩ | exact ⟨rfl, _, Eq.trans (World.drewN_drewN _ _ _) (congrArg (World.drewN _) (Nat.add_assoc _ _ _))⟩))); try go_wp2_with (first | (go_at_call 34; (with_reducible refine (lamplighterref12_Short.calls k _ _ l0 200 false _ ?side1 ?side2 A8.out).mono ?_); (case side1 => repeat (first | exact (Kd.C_below HR0.out HB.out) | (with_reducible refine Kd.C_alloc ?_ _) | (with_reducible refine Kd.C_drewN ?_ _) | (with_reducible refine Kd.C_drew ?_))); (case side2 => exact HC0.out); rintro e w' ⟨rfl, ⟨nd, rfl⟩⟩; (try first | exact ⟨rfl, _, World.drewN_drewN _ _ _⟩ | exact ⟨rfl, _, Eq.trans (World.drewN_drewN _ _ _) (congrArg (World.drewN _) (Nat.add_assoc _ _ _))⟩))))
      go_meet
      case rel => exact ⟨_, (true), (by first | rfl | (simp; done) | (simp [*]; done)), H', ⟨by first | omega | exact Nat.le_refl _⟩, ⟨by repeat (first | (with_reducible first | exact HB.out | apply below_alloc | apply pw_below_drewN | apply below_drew1) | exact HB.out)⟩⟩
  case rest =>
    clear HC6
    try clear c1
    try clear p2
    try clear c9
    try clear c10
    try clear c10b0
    try clear c10b1
    try clear c11
    try clear c11b0
    try clear c11b1
    obtain ⟨kq, x44_5, rfl, HA, HJ5, HB⟩ := hcut
    cases kq with
    | zero => exact absurd HA.out (by simp [lamplighterlaw12_AmapWrites.j0])
    | succ kj5 =>
      have H := HA.out
      clear HA
      simp only [lamplighterlaw12_AmapWrites.j0] at H
      by_cases c12 : x44_5 = true
      · subst c12
        have H1 : (some t103) = some r := by rw [if_pos rfl] at H; exact H
        clear H
        have H := H1
        clear H1
        obtain rfl := Option.some.inj H
        go_wp2
        repeat (go_quiet (fail); try go_wp2)
        go_ret
        exact ⟨by first | rfl | (simp [errW_none, errW_some] <;> rfl) | (simp [*, errW_none, errW_some] <;> rfl), by repeat (first | (with_reducible first | exact HB.out | apply below_alloc | apply pw_below_drewN | apply below_drew1) | exact HB.out)⟩
      · replace c12 := Bool.eq_false_iff.mpr c12
        subst c12
        have H1 : ((amap_With.f l0 a1 a2).bind fun t105 => ((amap_Without.f l0 a1).bind fun t108 => ((amap_Get.f t105 a1).bind fun bt111 => ((amap_Get.f t108 a1).bind fun bt113 => ((amap_Get.f l0 a3).bind fun bt115 => ((amap_Get.f t105 a3).bind fun bt117 => ((amap_Get.f t108 a3).bind fun bt119 => (lamplighterlaw12_AmapWrites.l0 kj5 l0 a1 a2 a3 t103 t105 t108 bt111.1 bt111.2 bt113.2 bt115.1 bt115.2 bt117.1 bt117.2 bt119.1 bt119.2 true 1)))))))) = some r := by rw [if_neg (show ¬ (false = true) by decide)] at H; exact H
        clear H
        have H := H1
        clear H1
        replace H := Option.bind_eq_some_iff.mp H
        obtain ⟨t105, A130, H⟩ := H
        replace H : ((amap_Without.f l0 a1).bind fun t108 => ((amap_Get.f t105 a1).bind fun bt111 => ((amap_Get.f t108 a1).bind fun bt113 => ((amap_Get.f l0 a3).bind fun bt115 => ((amap_Get.f t105 a3).bind fun bt117 => ((amap_Get.f t108 a3).bind fun bt119 => (lamplighterlaw12_AmapWrites.l0 kj5 l0 a1 a2 a3 t103 t105 t108 bt111.1 bt111.2 bt113.2 bt115.1 bt115.2 bt117.1 bt117.2 bt119.1 bt119.2 true 1))))))) = some r := H
        have A13 := Aside0.mk A130
        clear A130
        replace H := Option.bind_eq_some_iff.mp H
        obtain ⟨t108, A140, H⟩ := H
        replace H : ((amap_Get.f t105 a1).bind fun bt111 => ((amap_Get.f t108 a1).bind fun bt113 => ((amap_Get.f l0 a3).bind fun bt115 => ((amap_Get.f t105 a3).bind fun bt117 => ((amap_Get.f t108 a3).bind fun bt119 => (lamplighterlaw12_AmapWrites.l0 kj5 l0 a1 a2 a3 t103 t105 t108 bt111.1 bt111.2 bt113.2 bt115.1 bt115.2 bt117.1 bt117.2 bt119.1 bt119.2 true 1)))))) = some r := H
        have A14 := Aside0.mk A140
        clear A140
        replace H := Option.bind_eq_some_iff.mp H
        obtain ⟨⟨t111, t112⟩, A150, H⟩ := H
        replace H : ((amap_Get.f t108 a1).bind fun bt113 => ((amap_Get.f l0 a3).bind fun bt115 => ((amap_Get.f t105 a3).bind fun bt117 => ((amap_Get.f t108 a3).bind fun bt119 => (lamplighterlaw12_AmapWrites.l0 kj5 l0 a1 a2 a3 t103 t105 t108 t111 t112 bt113.2 bt115.1 bt115.2 bt117.1 bt117.2 bt119.1 bt119.2 true 1))))) = some r := H
        have A15 := Aside0.mk A150
        clear A150
        replace H := Option.bind_eq_some_iff.mp H
        obtain ⟨⟨t113, t114⟩, A160, H⟩ := H
        replace H : ((amap_Get.f l0 a3).bind fun bt115 => ((amap_Get.f t105 a3).bind fun bt117 => ((amap_Get.f t108 a3).bind fun bt119 => (lamplighterlaw12_AmapWrites.l0 kj5 l0 a1 a2 a3 t103 t105 t108 t111 t112 t114 bt115.1 bt115.2 bt117.1 bt117.2 bt119.1 bt119.2 true 1)))) = some r := H
        have A16 := Aside0.mk A160
        clear A160
        replace H := Option.bind_eq_some_iff.mp H
        obtain ⟨⟨t115, t116⟩, A170, H⟩ := H
        replace H : ((amap_Get.f t105 a3).bind fun bt117 => ((amap_Get.f t108 a3).bind fun bt119 => (lamplighterlaw12_AmapWrites.l0 kj5 l0 a1 a2 a3 t103 t105 t108 t111 t112 t114 t115 t116 bt117.1 bt117.2 bt119.1 bt119.2 true 1))) = some r := H
        have A17 := Aside0.mk A170
        clear A170
        replace H := Option.bind_eq_some_iff.mp H
        obtain ⟨⟨t117, t118⟩, A180, H⟩ := H
        replace H : ((amap_Get.f t108 a3).bind fun bt119 => (lamplighterlaw12_AmapWrites.l0 kj5 l0 a1 a2 a3 t103 t105 t108 t111 t112 t114 t115 t116 t117 t118 bt119.1 bt119.2 true 1)) = some r := H
        have A18 := Aside0.mk A180
        clear A180
        replace H := Option.bind_eq_some_iff.mp H
        obtain ⟨⟨t119, t120⟩, A190, H⟩ := H
        replace H : (lamplighterlaw12_AmapWrites.l0 kj5 l0 a1 a2 a3 t103 t105 t108 t111 t112 t114 t115 t116 t117 t118 t119 t120 true 1) = some r := H
        have A19 := Aside0.mk A190
        clear A190
        have H' := Aside0.mk H
        clear H
        go_wp2_with (first | (go_at_call 35; (with_reducible refine (amap_With.calls _ _ l0 a1 a2 t105 _ ?side1 ?side2 A13.out).mono ?_); (case side1 => repeat (first | exact (Kd.C_below HR0.out HB.out) | (with_reducible refine Kd.C_alloc ?_ _) | (with_reducible refine Kd.C_drewN ?_ _) | (with_reducible refine Kd.C_drew ?_))); (case side2 => exact HC0.out); rintro e w20 ⟨v106, rfl, ho0, hb⟩; have n0_ := Aside0.mk (Kd.R_lower ho0 (below_size (by repeat (first | (with_reducible first | exact HB.out | apply below_alloc | apply pw_below_drewN | apply below_drew1) | exact HB.out)))); have n1_ := Aside0.mk (below_step (by repeat (first | (with_reducible first | exact HB.out | apply below_alloc | apply pw_below_drewN | apply below_drew1) | exact HB.out)) hb); clear HB; have HO107 := n0_; have HB := n1_; clear n0_ n1_; (try clear hb); (try clear hb2); (try clear hk); (try clear hi); (try clear ho0)) | (go_at_call 36; (with_reducible refine (amap_Without.calls _ _ l0 a1 t108 _ ?side1 ?side2 A14.out).mono ?_); (case side1 => repeat (first | exact (Kd.C_below HR0.out HB.out) | (with_reducible refine Kd.C_alloc ?_ _) | (with_reducible refine Kd.C_drewN ?_ _) | (with_reducible refine Kd.C_drew ?_))); (case side2 => exact HC0.out); rintro e w21 ⟨v109, rfl, ho0, hb⟩; have n0_ := Aside0.mk (Kd.R_elder' (by (with_reducible repeat (first | apply Kd.R_alloc | apply Kd.R_drewN | apply Kd.R_drew)); exact HO107.out) (Kd.R_base ho0) hb); have n1_ := Aside0.mk (Kd.R_lower (Kd.R_new' ho0 (Kd.R_lt (by (with_reducible repeat (first | apply Kd.R_alloc | apply Kd.R_drewN | apply Kd.R_drew)); exact HO107.out))) (below_size (by repeat (first | (with_reducible first | exact HB.out | apply below_alloc | apply pw_below_drewN | apply below_drew1) | exact HB.out)))); have n2_ := Aside0.mk (below_step (by repeat (first | (with_reducible first | exact HB.out | apply below_alloc | apply pw_below_drewN | apply below_drew1) | exact HB.out)) hb); clear HO107; clear HB; have HO107 := n0_; have HO110 := n1_; have HB := n2_; clear n0_ n1_ n2_; (try clear hb); (try clear hb2); (try clear hk); (try clear hi); (try clear ho0); obtain ⟨Ao22, co22, eo22⟩ := Kd.R_slice HO107.out; subst eo22) | (go_at_call 28; (with_reducible refine (amap_Get.calls _ _ t105 a1 t111 t112 _ ?side1 ?side2 A15.out).mono ?_); (case side1 => repeat (first | exact (Kd.R_reads' HO107.out).2.2 | (with_reducible refine Kd.C_alloc ?_ _) | (with_reducible refine Kd.C_drewN ?_ _) | (with_reducible refine Kd.C_drew ?_))); (case side2 => exact (Kd.R_reads' HO107.out).2.1); rintro e w23 ⟨rfl, hb⟩; have n0_ := Aside0.mk (Kd.R_below (by (with_reducible repeat (first | apply Kd.R_alloc | apply Kd.R_drewN | apply Kd.R_drew)); exact HO107.out) hb); have n1_ := Aside0.mk (Kd.R_below (by (with_reducible repeat (first | apply Kd.R_alloc | apply Kd.R_drewN | apply Kd.R_drew)); exact HO110.out) hb); have n2_ := Aside0.mk (below_step (by repeat (first | (with_reducible first | exact HB.out | apply below_alloc | apply pw_below_drewN | apply below_drew1) | exact HB.out)) hb); clear HO107; clear HO110; clear HB; have HO107 := n0_; have HO110 := n1_; have HB := n2_; clear n0_ n1_ n2_; (try clear hb); (try clear hb2); (try clear hk); (try clear hi); obtain ⟨Ao24, co24, eo24⟩ := Kd.R_slice HO110.out; subst eo24) | (go_at_call 28; (with_reducible refine (amap_Get.calls _ _ t108 a1 t113 t114 _ ?side1 ?side2 A16.out).mono ?_); (case side1 => repeat (first | exact (Kd.R_reads' HO110.out).2.2 | (with_reducible refine Kd.C_alloc ?_ _) | (with_reducible refine Kd.C_drewN ?_ _) | (with_reducible refine Kd.C_drew ?_))); (case side2 => exact (Kd.R_reads' HO110.out).2.1); rintro e w25 ⟨rfl, hb⟩; have n0_ := Aside0.mk (Kd.R_below (by (with_reducible repeat (first | apply Kd.R_alloc | apply Kd.R_drewN | apply Kd.R_drew)); exact HO107.out) hb); have n1_ := Aside0.mk (Kd.R_below (by (with_reducible repeat (first | apply Kd.R_alloc | apply Kd.R_drewN | apply Kd.R_drew)); exact HO110.out) hb); have n2_ := Aside0.mk (below_step (by repeat (first | (with_reducible first | exact HB.out | apply below_alloc | apply pw_below_drewN | apply below_drew1) | exact HB.out)) hb); clear HO107; clear HO110; clear HB; have HO107 := n0_; have HO110 := n1_; have HB := n2_; clear n0_ n1_ n2_; (try clear hb); (try clear hb2); (try clear hk); (try clear hi)) | (go_at_call 28; (with_reducible refine (amap_Get.calls _ _ l0 a3 t115 t116 _ ?side1 ?side2 A17.out).mono ?_); (case side1 => repeat (first | exact (Kd.C_below HR0.out HB.out) | (with_reducible refine Kd.C_alloc ?_ _) | (with_reducible refine Kd.C_drewN ?_ _) | (with_reducible refine Kd.C_drew ?_))); (case side2 => exact HC0.out); rintro e w26 ⟨rfl, hb⟩; have n0_ := Aside0.mk (Kd.R_below (by (with_reducible repeat (first | apply Kd.R_alloc | apply Kd.R_drewN | apply Kd.R_drew)); exact HO107.out) hb); have n1_ := Aside0.mk (Kd.R_below (by (with_reducible repeat (first | apply Kd.R_alloc | apply Kd.R_drewN | apply Kd.R_drew)); exact HO110.out) hb); have n2_ := Aside0.mk (below_step (by repeat (first | (with_reducible first | exact HB.out | apply below_alloc | apply pw_below_drewN | apply below_drew1) | exact HB.out)) hb); clear HO107; clear HO110; clear HB; have HO107 := n0_; have HO110 := n1_; have HB := n2_; clear n0_ n1_ n2_; (try clear hb); (try clear hb2); (try clear hk); (try clear hi)) | (go_at_call 28; (with_reducible refine (amap_Get.calls _ _ t105 a3 t117 t118 _ ?side1 ?side2 A18.out).mono ?_); (case side1 => repeat (first | exact (Kd.R_reads' HO107.out).2.2 | (with_reducible refine Kd.C_alloc ?_ _) | (with_reducible refine Kd.C_drewN ?_ _) | (with_reducible refine Kd.C_drew ?_))); (case side2 => exact (Kd.R_reads' HO107.out).2.1); rintro e w27 ⟨rfl, hb⟩; have n0_ := Aside0.mk (Kd.R_below (by (with_reducible repeat (first | apply Kd.R_alloc | apply Kd.R_drewN | apply Kd.R_drew)); exact HO107.out) hb); have n1_ := Aside0.mk (Kd.R_below (by (with_reducible repeat (first | apply Kd.R_alloc | apply Kd.R_drewN | apply Kd.R_drew)); exact HO110.out) hb); have n2_ := Aside0.mk (below_step (by repeat (first | (with_reducible first | exact HB.out | apply below_alloc | apply pw_below_drewN | apply below_drew1) | exact HB.out)) hb); clear HO107; clear HO110; clear HB; have HO107 := n0_; have HO110 := n1_; have HB := n2_; clear n0_ n1_ n2_; (try clear hb); (try clear hb2); (try clear hk); (try clear hi)) | (go_at_call 28; (with_reducible refine (amap_Get.calls _ _ t108 a3 t119 t120 _ ?side1 ?side2 A19.out).mono ?_); (case side1 => repeat (first | exact (Kd.R_reads' HO110.out).2.2 | (with_reducible refine Kd.C_alloc ?_ _) | (with_reducible refine Kd.C_drewN ?_ _) | (with_reducible refine Kd.C_drew ?_))); (case side2 => exact (Kd.R_reads' HO110.out).2.1); rintro e w28 ⟨rfl, hb⟩; have n0_ := Aside0.mk (Kd.R_below (by (with_reducible repeat (first | apply Kd.R_alloc | apply Kd.R_drewN | apply Kd.R_drew)); exact HO107.out) hb); have n1_ := Aside0.mk (Kd.R_below (by (with_reducible repeat (first | apply Kd.R_alloc | apply Kd.R_drewN | apply Kd.R_drew)); exact HO110.out) hb); have n2_ := Aside0.mk (below_step (by repeat (first | (with_reducible first | exact HB.out | apply below_alloc | apply pw_below_drewN | apply below_drew1) | exact HB.out)) hb); clear HO107; clear HO110; clear HB; have HO107 := n0_; have HO110 := n1_; have HB := n2_; clear n0_ n1_ n2_; (try clear hb); (try clear hb2); (try clear hk); (try clear hi)))
        repeat (go_quiet (first | (go_at_call 35; (with_reducible refine (amap_With.calls _ _ l0 a1 a2 t105 _ ?side1 ?side2 A13.out).mono ?_); (case side1 => repeat (first | exact (Kd.C_below HR0.out HB.out) | (with_reducible refine Kd.C_alloc ?_ _) | (with_reducible refine Kd.C_drewN ?_ _) | (with_reducible refine Kd.C_drew ?_))); (case side2 => exact HC0.out); rintro e w20 ⟨v106, rfl, ho0, hb⟩; have n0_ := Aside0.mk (Kd.R_lower ho0 (below_size (by repeat (first | (with_reducible first | exact HB.out | apply below_alloc | apply pw_below_drewN | apply below_drew1) | exact HB.out)))); have n1_ := Aside0.mk (below_step (by repeat (first | (with_reducible first | exact HB.out | apply below_alloc | apply pw_below_drewN | apply below_drew1) | exact HB.out)) hb); clear HB; have HO107 := n0_; have HB := n1_; clear n0_ n1_; (try clear hb); (try clear hb2); (try clear hk); (try clear hi); (try clear ho0)) | (go_at_call 36; (with_reducible refine (amap_Without.calls _ _ l0 a1 t108 _ ?side1 ?side2 A14.out).mono ?_); (case side1 => repeat (first | exact (Kd.C_below HR0.out HB.out) | (with_reducible refine Kd.C_alloc ?_ _) | (with_reducible refine Kd.C_drewN ?_ _) | (with_reducible refine Kd.C_drew ?_))); (case side2 => exact HC0.out); rintro e w21 ⟨v109, rfl, ho0, hb⟩; have n0_ := Aside0.mk (Kd.R_elder' (by (with_reducible repeat (first | apply Kd.R_alloc | apply Kd.R_drewN | apply Kd.R_drew)); exact HO107.out) (Kd.R_base ho0) hb); have n1_ := Aside0.mk (Kd.R_lower (Kd.R_new' ho0 (Kd.R_lt (by (with_reducible repeat (first | apply Kd.R_alloc | apply Kd.R_drewN | apply Kd.R_drew)); exact HO107.out))) (below_size (by repeat (first | (with_reducible first | exact HB.out | apply below_alloc | apply pw_below_drewN | apply below_drew1) | exact HB.out)))); have n2_ := Aside0.mk (below_step (by repeat (first | (with_reducible first | exact HB.out | apply below_alloc | apply pw_below_drewN | apply below_drew1) | exact HB.out)) hb); clear HO107; clear HB; have HO107 := n0_; have HO110 := n1_; have HB := n2_; clear n0_ n1_ n2_; (try clear hb); (try clear hb2); (try clear hk); (try clear hi); (try clear ho0); obtain ⟨Ao22, co22, eo22⟩ := Kd.R_slice HO107.out; subst eo22) | (go_at_call 28; (with_reducible refine (amap_Get.calls _ _ t105 a1 t111 t112 _ ?side1 ?side2 A15.out).mono ?_); (case side1 => repeat (first | exact (Kd.R_reads' HO107.out).2.2 | (with_reducible refine Kd.C_alloc ?_ _) | (with_reducible refine Kd.C_drewN ?_ _) | (with_reducible refine Kd.C_drew ?_))); (case side2 => exact (Kd.R_reads' HO107.out).2.1); rintro e w23 ⟨rfl, hb⟩; have n0_ := Aside0.mk (Kd.R_below (by (with_reducible repeat (first | apply Kd.R_alloc | apply Kd.R_drewN | apply Kd.R_drew)); exact HO107.out) hb); have n1_ := Aside0.mk (Kd.R_below (by (with_reducible repeat (first | apply Kd.R_alloc | apply Kd.R_drewN | apply Kd.R_drew)); exact HO110.out) hb); have n2_ := Aside0.mk (below_step (by repeat (first | (with_reducible first | exact HB.out | apply below_alloc | apply pw_below_drewN | apply below_drew1) | exact HB.out)) hb); clear HO107; clear HO110; clear HB; have HO107 := n0_; have HO110 := n1_; have HB := n2_; clear n0_ n1_ n2_; (try clear hb); (try clear hb2); (try clear hk); (try clear hi); obtain ⟨Ao24, co24, eo24⟩ := Kd.R_slice HO110.out; subst eo24) | (go_at_call 28; (with_reducible refine (amap_Get.calls _ _ t108 a1 t113 t114 _ ?side1 ?side2 A16.out).mono ?_); (case side1 => repeat (first | exact (Kd.R_reads' HO110.out).2.2 | (with_reducible refine Kd.C_alloc ?_ _) | (with_reducible refine Kd.C_drewN ?_ _) | (with_reducible refine Kd.C_drew ?_))); (case side2 => exact (Kd.R_reads' HO110.out).2.1); rintro e w25 ⟨rfl, hb⟩; have n0_ := Aside0.mk (Kd.R_below (by (with_reducible repeat (first | apply Kd.R_alloc | apply Kd.R_drewN | apply Kd.R_drew)); exact HO107.out) hb); have n1_ := Aside0.mk (Kd.R_below (by (with_reducible repeat (first | apply Kd.R_alloc | apply Kd.R_drewN | apply Kd.R_drew)); exact HO110.out) hb); have n2_ := Aside0.mk (below_step (by repeat (first | (with_reducible first | exact HB.out | apply below_alloc | apply pw_below_drewN | apply below_drew1) | exact HB.out)) hb); clear HO107; clear HO110; clear HB; have HO107 := n0_; have HO110 := n1_; have HB := n2_; clear n0_ n1_ n2_; (try clear hb); (try clear hb2); (try clear hk); (try clear hi)) | (go_at_call 28; (with_reducible refine (amap_Get.calls _ _ l0 a3 t115 t116 _ ?side1 ?side2 A17.out).mono ?_); (case side1 => repeat (first | exact (Kd.C_below HR0.out HB.out) | (with_reducible refine Kd.C_alloc ?_ _) | (with_reducible refine Kd.C_drewN ?_ _) | (with_reducible refine Kd.C_drew ?_))); (case side2 => exact HC0.out); rintro e w26 ⟨rfl, hb⟩; have n0_ := Aside0.mk (Kd.R_below (by (with_reducible repeat (first | apply Kd.R_alloc | apply Kd.R_drewN | apply Kd.R_drew)); exact HO107.out) hb); have n1_ := Aside0.mk (Kd.R_below (by (with_reducible repeat (first | apply Kd.R_alloc | apply Kd.R_drewN | apply Kd.R_drew)); exact HO110.out) hb); have n2_ := Aside0.mk (below_step (by repeat (first | (with_reducible first | exact HB.out | apply below_alloc | apply pw_below_drewN | apply below_drew1) | exact HB.out)) hb); clear HO107; clear HO110; clear HB; have HO107 := n0_; have HO110 := n1_; have HB := n2_; clear n0_ n1_ n2_; (try clear hb); (try clear hb2); (try clear hk); (try clear hi)) | (go_at_call 28; (with_reducible refine (amap_Get.calls _ _ t105 a3 t117 t118 _ ?side1 ?side2 A18.out).mono ?_); (case side1 => repeat (first | exact (Kd.R_reads' HO107.out).2.2 | (with_reducible refine Kd.C_alloc ?_ _) | (with_reducible refine Kd.C_drewN ?_ _) | (with_reducible refine Kd.C_drew ?_))); (case side2 => exact (Kd.R_reads' HO107.out).2.1); rintro e w27 ⟨rfl, hb⟩; have n0_ := Aside0.mk (Kd.R_below (by (with_reducible repeat (first | apply Kd.R_alloc | apply Kd.R_drewN | apply Kd.R_drew)); exact HO107.out) hb); have n1_ := Aside0.mk (Kd.R_below (by (with_reducible repeat (first | apply Kd.R_alloc | apply Kd.R_drewN | apply Kd.R_drew)); exact HO110.out) hb); have n2_ := Aside0.mk (below_step (by repeat (first | (with_reducible first | exact HB.out | apply below_alloc | apply pw_below_drewN | apply below_drew1) | exact HB.out)) hb); clear HO107; clear HO110; clear HB; have HO107 := n0_; have HO110 := n1_; have HB := n2_; clear n0_ n1_ n2_; (try clear hb); (try clear hb2); (try clear hk); (try clear hi)) | (go_at_call 28; (with_reducible refine (amap_Get.calls _ _ t108 a3 t119 t120 _ ?side1 ?side2 A19.out).mono ?_); (case side1 => repeat (first | exact (Kd.R_reads' HO110.out).2.2 | (with_reducible refine Kd.C_alloc ?_ _) | (with_reducible refine Kd.C_drewN ?_ _) | (with_reducible refine Kd.C_drew ?_))); (case side2 => exact (Kd.R_reads' HO110.out).2.1); rintro e w28 ⟨rfl, hb⟩; have n0_ := Aside0.mk (Kd.R_below (by (with_reducible repeat (first | apply Kd.R_alloc | apply Kd.R_drewN | apply Kd.R_drew)); exact HO107.out) hb); have n1_ := Aside0.mk (Kd.R_below (by (with_reducible repeat (first | apply Kd.R_alloc | apply Kd.R_drewN | apply Kd.R_drew)); exact HO110.out) hb); have n2_ := Aside0.mk (below_step (by repeat (first | (with_reducible first | exact HB.out | apply below_alloc | apply pw_below_drewN | apply below_drew1) | exact HB.out)) hb); clear HO107; clear HO110; clear HB; have HO107 := n0_; have HO110 := n1_; have HB := n2_; clear n0_ n1_ n2_; (try clear hb); (try clear hb2); (try clear hk); (try clear hi))); try go_wp2_with (first | (go_at_call 35; (with_reducible refine (amap_With.calls _ _ l0 a1 a2 t105 _ ?side1 ?side2 A13.out).mono ?_); (case side1 => repeat (first | exact (Kd.C_below HR0.out HB.out) | (with_reducible refine Kd.C_alloc ?_ _) | (with_reducible refine Kd.C_drewN ?_ _) | (with_reducible refine Kd.C_drew ?_))); (case side2 => exact HC0.out); rintro e w20 ⟨v106, rfl, ho0, hb⟩; have n0_ := Aside0.mk (Kd.R_lower ho0 (below_size (by repeat (first | (with_reducible first | exact HB.out | apply below_alloc | apply pw_below_drewN | apply below_drew1) | exact HB.out)))); have n1_ := Aside0.mk (below_step (by repeat (first | (with_reducible first | exact HB.out | apply below_alloc | apply pw_below_drewN | apply below_drew1) | exact HB.out)) hb); clear HB; have HO107 := n0_; have HB := n1_; clear n0_ n1_; (try clear hb); (try clear hb2); (try clear hk); (try clear hi); (try clear ho0)) | (go_at_call 36; (with_reducible refine (amap_Without.calls _ _ l0 a1 t108 _ ?side1 ?side2 A14.out).mono ?_); (case side1 => repeat (first | exact (Kd.C_below HR0.out HB.out) | (with_reducible refine Kd.C_alloc ?_ _) | (with_reducible refine Kd.C_drewN ?_ _) | (with_reducible refine Kd.C_drew ?_))); (case side2 => exact HC0.out); rintro e w21 ⟨v109, rfl, ho0, hb⟩; have n0_ := Aside0.mk (Kd.R_elder' (by (with_reducible repeat (first | apply Kd.R_alloc | apply Kd.R_drewN | apply Kd.R_drew)); exact HO107.out) (Kd.R_base ho0) hb); have n1_ := Aside0.mk (Kd.R_lower (Kd.R_new' ho0 (Kd.R_lt (by (with_reducible repeat (first | apply Kd.R_alloc | apply Kd.R_drewN | apply Kd.R_drew)); exact HO107.out))) (below_size (by repeat (first | (with_reducible first | exact HB.out | apply below_alloc | apply pw_below_drewN | apply below_drew1) | exact HB.out)))); have n2_ := Aside0.mk (below_step (by repeat (first | (with_reducible first | exact HB.out | apply below_alloc | apply pw_below_drewN | apply below_drew1) | exact HB.out)) hb); clear HO107; clear HB; have HO107 := n0_; have HO110 := n1_; have HB := n2_; clear n0_ n1_ n2_; (try clear hb); (try clear hb2); (try clear hk); (try clear hi); (try clear ho0); obtain ⟨Ao22, co22, eo22⟩ := Kd.R_slice HO107.out; subst eo22) | (go_at_call 28; (with_reducible refine (amap_Get.calls _ _ t105 a1 t111 t112 _ ?side1 ?side2 A15.out).mono ?_); (case side1 => repeat (first | exact (Kd.R_reads' HO107.out).2.2 | (with_reducible refine Kd.C_alloc ?_ _) | (with_reducible refine Kd.C_drewN ?_ _) | (with_reducible refine Kd.C_drew ?_))); (case side2 => exact (Kd.R_reads' HO107.out).2.1); rintro e w23 ⟨rfl, hb⟩; have n0_ := Aside0.mk (Kd.R_below (by (with_reducible repeat (first | apply Kd.R_alloc | apply Kd.R_drewN | apply Kd.R_drew)); exact HO107.out) hb); have n1_ := Aside0.mk (Kd.R_below (by (with_reducible repeat (first | apply Kd.R_alloc | apply Kd.R_drewN | apply Kd.R_drew)); exact HO110.out) hb); have n2_ := Aside0.mk (below_step (by repeat (first | (with_reducible first | exact HB.out | apply below_alloc | apply pw_below_drewN | apply below_drew1) | exact HB.out)) hb); clear HO107; clear HO110; clear HB; have HO107 := n0_; have HO110 := n1_; have HB := n2_; clear n0_ n1_ n2_; (try clear hb); (try clear hb2); (try clear hk); (try clear hi); obtain ⟨Ao24, co24, eo24⟩ := Kd.R_slice HO110.out; subst eo24) | (go_at_call 28; (with_reducible refine (amap_Get.calls _ _ t108 a1 t113 t114 _ ?side1 ?side2 A16.out).mono ?_); (case side1 => repeat (first | exact (Kd.R_reads' HO110.out).2.2 | (with_reducible refine Kd.C_alloc ?_ _) | (with_reducible refine Kd.C_drewN ?_ _) | (with_reducible refine Kd.C_drew ?_))); (case side2 => exact (Kd.R_reads' HO110.out).2.1); rintro e w25 ⟨rfl, hb⟩; have n0_ := Aside0.mk (Kd.R_below (by (with_reducible repeat (first | apply Kd.R_alloc | apply Kd.R_drewN | apply Kd.R_drew)); exact HO107.out) hb); have n1_ := Aside0.mk (Kd.R_below (by (with_reducible repeat (first | apply Kd.R_alloc | apply Kd.R_drewN | apply Kd.R_drew)); exact HO110.out) hb); have n2_ := Aside0.mk (below_step (by repeat (first | (with_reducible first | exact HB.out | apply below_alloc | apply pw_below_drewN | apply below_drew1) | exact HB.out)) hb); clear HO107; clear HO110; clear HB; have HO107 := n0_; have HO110 := n1_; have HB := n2_; clear n0_ n1_ n2_; (try clear hb); (try clear hb2); (try clear hk); (try clear hi)) | (go_at_call 28; (with_reducible refine (amap_Get.calls _ _ l0 a3 t115 t116 _ ?side1 ?side2 A17.out).mono ?_); (case side1 => repeat (first | exact (Kd.C_below HR0.out HB.out) | (with_reducible refine Kd.C_alloc ?_ _) | (with_reducible refine Kd.C_drewN ?_ _) | (with_reducible refine Kd.C_drew ?_))); (case side2 => exact HC0.out); rintro e w26 ⟨rfl, hb⟩; have n0_ := Aside0.mk (Kd.R_below (by (with_reducible repeat (first | apply Kd.R_alloc | apply Kd.R_drewN | apply Kd.R_drew)); exact HO107.out) hb); have n1_ := Aside0.mk (Kd.R_below (by (with_reducible repeat (first | apply Kd.R_alloc | apply Kd.R_drewN | apply Kd.R_drew)); exact HO110.out) hb); have n2_ := Aside0.mk (below_step (by repeat (first | (with_reducible first | exact HB.out | apply below_alloc | apply pw_below_drewN | apply below_drew1) | exact HB.out)) hb); clear HO107; clear HO110; clear HB; have HO107 := n0_; have HO110 := n1_; have HB := n2_; clear n0_ n1_ n2_; (try clear hb); (try clear hb2); (try clear hk); (try clear hi)) | (go_at_call 28; (with_reducible refine (amap_Get.calls _ _ t105 a3 t117 t118 _ ?side1 ?side2 A18.out).mono ?_); (case side1 => repeat (first | exact (Kd.R_reads' HO107.out).2.2 | (with_reducible refine Kd.C_alloc ?_ _) | (with_reducible refine Kd.C_drewN ?_ _) | (with_reducible refine Kd.C_drew ?_))); (case side2 => exact (Kd.R_reads' HO107.out).2.1); rintro e w27 ⟨rfl, hb⟩; have n0_ := Aside0.mk (Kd.R_below (by (with_reducible repeat (first | apply Kd.R_alloc | apply Kd.R_drewN | apply Kd.R_drew)); exact HO107.out) hb); have n1_ := Aside0.mk (Kd.R_below (by (with_reducible repeat (first | apply Kd.R_alloc | apply Kd.R_drewN | apply Kd.R_drew)); exact HO110.out) hb); have n2_ := Aside0.mk (below_step (by repeat (first | (with_reducible first | exact HB.out | apply below_alloc | apply pw_below_drewN | apply below_drew1) | exact HB.out)) hb); clear HO107; clear HO110; clear HB; have HO107 := n0_; have HO110 := n1_; have HB := n2_; clear n0_ n1_ n2_; (try clear hb); (try clear hb2); (try clear hk); (try clear hi)) | (go_at_call 28; (with_reducible refine (amap_Get.calls _ _ t108 a3 t119 t120 _ ?side1 ?side2 A19.out).mono ?_); (case side1 => repeat (first | exact (Kd.R_reads' HO110.out).2.2 | (with_reducible refine Kd.C_alloc ?_ _) | (with_reducible refine Kd.C_drewN ?_ _) | (with_reducible refine Kd.C_drew ?_))); (case side2 => exact (Kd.R_reads' HO110.out).2.1); rintro e w28 ⟨rfl, hb⟩; have n0_ := Aside0.mk (Kd.R_below (by (with_reducible repeat (first | apply Kd.R_alloc | apply Kd.R_drewN | apply Kd.R_drew)); exact HO107.out) hb); have n1_ := Aside0.mk (Kd.R_below (by (with_reducible repeat (first | apply Kd.R_alloc | apply Kd.R_drewN | apply Kd.R_drew)); exact HO110.out) hb); have n2_ := Aside0.mk (below_step (by repeat (first | (with_reducible first | exact HB.out | apply below_alloc | apply pw_below_drewN | apply below_drew1) | exact HB.out)) hb); clear HO107; clear HO110; clear HB; have HO107 := n0_; have HO110 := n1_; have HB := n2_; clear n0_ n1_ n2_; (try clear hb); (try clear hb2); (try clear hk); (try clear hi))))
        go_loopg [22, 23] kj5 (fun kq v22 v23 w' => ∃ (x22_2 : Bool) (x23_2 : Int), v22 = .bool x22_2 ∧ v23 = .int .i64 x23_2 ∧ Aside0 (lamplighterlaw12_AmapWrites.l0 kq l0 a1 a2 a3 t103 t105 t108 t111 t112 t114 t115 t116 t117 t118 t119 t120 x22_2 x23_2 = some r) ∧ Aside0 (kq ≤ kj5) ∧ Aside0 (Kd.R k53 53 w' w.heap.size (fun k_ => some k_ ≠ ((.slice Ao24 t108.length co24) : Value).ownBlock) (.slice Ao22 t105.length co22) t105) ∧ Aside0 (Kd.R k53 53 w' w.heap.size (fun k_ => some k_ ≠ ((.slice Ao22 t105.length co22) : Value).ownBlock) (.slice Ao24 t108.length co24) t108) ∧ Aside0 (Below w.heap.size w w'))
        case atStart => exact ⟨(true), (1), (by first | rfl | (simp; done) | (simp [*]; done)), (by first | rfl | (simp; done) | (simp [*]; done)), H', ⟨Nat.le_refl _⟩, ⟨by (with_reducible repeat (first | apply Kd.R_alloc | apply Kd.R_drewN | apply Kd.R_drew)); exact Kd.R_mono HO107.out (fun _ hk => hk.2)⟩, ⟨by (with_reducible repeat (first | apply Kd.R_alloc | apply Kd.R_drewN | apply Kd.R_drew)); exact Kd.R_mono HO110.out (fun _ hk => hk.2)⟩, ⟨by repeat (first | (with_reducible first | exact HB.out | apply below_alloc | apply pw_below_drewN | apply below_drew1) | exact HB.out)⟩⟩
        case round =>
          clear H'
          try clear c1
          try clear p2
          try clear c9
          try clear c10
          try clear c10b0
          try clear c10b1
          try clear c11
          try clear c11b0
          try clear c11b1
          try clear c12
          try clear p2
          obtain ⟨x22_2, x23_2, rfl, rfl, HA, HK2, HO_10, HO_11, HB⟩ := hrel
          cases gk with
          | zero => exact absurd HA.out (by simp [lamplighterlaw12_AmapWrites.l0])
          | succ k2 =>
            have H := HA.out
            clear HA
            simp only [lamplighterlaw12_AmapWrites.l0] at H
            by_cases c29 : x23_2 < (l0.length : Int)
            · rw [if_pos c29] at H
              have c29b0 : decide (x23_2 < (l0.length : Int)) = true := decide_eq_true c29
              clear c29
              by_cases c30 : x22_2 = true
              · subst c30
                have H1 : (if 0 ≤ x23_2 then (if 0 ≤ (wrap64 (x23_2 - 1)) then (if (wrap64 (x23_2 - 1)) < (l0.length : Int) then (lamplighterlaw12_AmapWrites.l0 k2 l0 a1 a2 a3 t103 t105 t108 t111 t112 t114 t115 t116 t117 t118 t119 t120 (Op.bytesLess (((rd_T53 l0 (wrap64 (x23_2 - 1))).f0).toList) (((rd_T53 l0 x23_2).f0).toList)) (wrap64 (x23_2 + 1))) else (none)) else (none)) else (none)) = some r := by rw [if_pos rfl] at H; exact H
                clear H
                have H := H1
                clear H1
                by_cases c31 : 0 ≤ x23_2
                · rw [if_pos c31] at H
                  have c31b0 : decide (0 ≤ x23_2) = true := decide_eq_true c31
                  clear c31
                  obtain ⟨ji32, hji32⟩ : ∃ j_ : Int, (wrap64 (x23_2 - 1)) = j_ := ⟨_, rfl⟩
                  replace H : (if 0 ≤ (ji32) then (if (ji32) < (l0.length : Int) then (lamplighterlaw12_AmapWrites.l0 k2 l0 a1 a2 a3 t103 t105 t108 t111 t112 t114 t115 t116 t117 t118 t119 t120 (Op.bytesLess (((rd_T53 l0 (ji32)).f0).toList) (((rd_T53 l0 x23_2).f0).toList)) (wrap64 (x23_2 + 1))) else (none)) else (none)) = some r := by first | (rw [hji32] at H; exact H) | (simp only [hji32] at H ⊢; exact H)
                  have hji32w : (IntKind.i64.wrap (x23_2 - 1)) = ji32 := (i64_w _).trans hji32
                  by_cases c33 : 0 ≤ (ji32)
                  · rw [if_pos c33] at H
                    have c33b0 : decide (0 ≤ (ji32)) = true := decide_eq_true c33
                    clear c33
                    by_cases c34 : (ji32) < (l0.length : Int)
                    · rw [if_pos c34] at H
                      have c34b0 : decide ((ji32) < (l0.length : Int)) = true := decide_eq_true c34
                      clear c34
                      have H' := Aside0.mk H
                      clear H
                      have p121 : 0 ≤ (x23_2 : Int) := of_decide_eq_true (by first | (with_reducible assumption) | assumption)
                      have q121 : x23_2 < (l0.length : Int) := of_decide_eq_true (by first | (with_reducible assumption) | assumption)
                      obtain ⟨ad121, e121, hx121_0, hx121_1⟩ := at_T53 HR0.out x23_2 p121 q121
                      cases e121
                      replace hx121_0 := (HB.out.cell (World.block_lt_of_cell? w _ hx121_0)).trans hx121_0
                      replace hx121_1 := (HB.out.cell (World.block_lt_of_cell? w _ hx121_1)).trans hx121_1
                      replace p121 := eq_true p121
                      replace q121 := eq_true q121
                      have p122 : 0 ≤ ((ji32) : Int) := of_decide_eq_true (by first | (with_reducible assumption) | assumption)
                      have q122 : (ji32) < (l0.length : Int) := of_decide_eq_true (by first | (with_reducible assumption) | assumption)
                      obtain ⟨ad122, e122, hx122_0, hx122_1⟩ := at_T53 HR0.out (ji32) p122 q122
                      obtain rfl : ad121 = ad122 := (by injection e122)
                      replace hx122_0 := (HB.out.cell (World.block_lt_of_cell? w _ hx122_0)).trans hx122_0
                      replace hx122_1 := (HB.out.cell (World.block_lt_of_cell? w _ hx122_1)).trans hx122_1
                      replace p122 := eq_true p122
                      replace q122 := eq_true q122
                      go_wp2
                      repeat (go_quiet (fail); try go_wp2)
                      go_roundg k2
                      case measure => have := HJ5.out; have := HK2.out; omega
                      case rel => exact ⟨((Op.bytesLess (((rd_T53 l0 (ji32)).f0).toList) (((rd_T53 l0 x23_2).f0).toList))), (wrap64 (x23_2 + 1)), (by first | rfl | (simp; done) | (simp only [← hji32] <;> (first | rfl | simp)) | (simp [*]; done)), (by first | rfl | (simp; done) | (simp [*]; done)), H', ⟨by have := HJ5.out; have := HK2.out; omega⟩, ⟨by (with_reducible repeat (first | apply Kd.R_alloc | apply Kd.R_drewN | apply Kd.R_drew)); exact HO_10.out⟩, ⟨by (with_reducible repeat (first | apply Kd.R_alloc | apply Kd.R_drewN | apply Kd.R_drew)); exact HO_11.out⟩, ⟨by repeat (first | (with_reducible first | exact HB.out | apply below_alloc | apply pw_below_drewN | apply below_drew1) | exact HB.out)⟩⟩
                    · rw [if_neg c34] at H
                      exact absurd H (by simp)
                  · rw [if_neg c33] at H
                    exact absurd H (by simp)
                · rw [if_neg c31] at H
                  exact absurd H (by simp)
              · replace c30 := Bool.eq_false_iff.mpr c30
                subst c30
                have H1 : (lamplighterlaw12_AmapWrites.l0 k2 l0 a1 a2 a3 t103 t105 t108 t111 t112 t114 t115 t116 t117 t118 t119 t120 false (wrap64 (x23_2 + 1))) = some r := by rw [if_neg (show ¬ (false = true) by decide)] at H; exact H
                clear H
                have H := H1
                clear H1
                have H' := Aside0.mk H
                clear H
                go_wp2
                repeat (go_quiet (fail); try go_wp2)
                go_roundg k2
                case measure => have := HJ5.out; have := HK2.out; omega
                case rel => exact ⟨(false), (wrap64 (x23_2 + 1)), (by first | rfl | (simp; done) | (simp [*]; done)), (by first | rfl | (simp; done) | (simp [*]; done)), H', ⟨by have := HJ5.out; have := HK2.out; omega⟩, ⟨by (with_reducible repeat (first | apply Kd.R_alloc | apply Kd.R_drewN | apply Kd.R_drew)); exact HO_10.out⟩, ⟨by (with_reducible repeat (first | apply Kd.R_alloc | apply Kd.R_drewN | apply Kd.R_drew)); exact HO_11.out⟩, ⟨by repeat (first | (with_reducible first | exact HB.out | apply below_alloc | apply pw_below_drewN | apply below_drew1) | exact HB.out)⟩⟩
            · rw [if_neg c29] at H
              have c29b0 : decide (x23_2 < (l0.length : Int)) = false := decide_eq_false c29
              clear c29
              have H' := Aside0.mk H
              clear H
              go_wp2
              repeat (go_quiet (fail); try go_wp2)
              go_loopg [24] k2 (fun kq v24 w' => ∃ (x24_3 : Int), v24 = .int .i64 x24_3 ∧ Aside0 (lamplighterlaw12_AmapWrites.l1 kq l0 a1 a2 a3 t103 t105 t108 t111 t112 t114 t115 t116 t117 t118 t119 t120 x22_2 x24_3 = some r) ∧ Aside0 (kq ≤ k2) ∧ Aside0 (Kd.R k53 53 w' w.heap.size (fun k_ => some k_ ≠ ((.slice Ao24 t108.length co24) : Value).ownBlock) (.slice Ao22 t105.length co22) t105) ∧ Aside0 (Kd.R k53 53 w' w.heap.size (fun k_ => some k_ ≠ ((.slice Ao22 t105.length co22) : Value).ownBlock) (.slice Ao24 t108.length co24) t108) ∧ Aside0 (Below w.heap.size w w'))
              case atStart => exact ⟨(1), (by first | rfl | (simp; done) | (simp [*]; done)), H', ⟨Nat.le_refl _⟩, ⟨by (with_reducible repeat (first | apply Kd.R_alloc | apply Kd.R_drewN | apply Kd.R_drew)); exact HO_10.out⟩, ⟨by (with_reducible repeat (first | apply Kd.R_alloc | apply Kd.R_drewN | apply Kd.R_drew)); exact HO_11.out⟩, ⟨by repeat (first | (with_reducible first | exact HB.out | apply below_alloc | apply pw_below_drewN | apply below_drew1) | exact HB.out)⟩⟩
              case round =>
                clear H'
                try clear c1
                try clear p1
                try clear q1
                try clear hx1
                try clear c2
                try clear p2
                try clear c3
                try clear p6
                try clear c9
                try clear c10
                try clear c10b0
                try clear c10b1
                try clear c11
                try clear c11b0
                try clear c11b1
                try clear c12
                try clear p12
                try clear q12
                try clear hx12
                try clear c29
                try clear c29b0
                try clear c30
                try clear c31
                try clear c31b0
                try clear c33
                try clear c33b0
                try clear c34
                try clear c34b0
                try clear hx121_0
                try clear hx121_1
                try clear hx122_0
                try clear hx122_1
                try clear p121
                try clear p122
                try clear p2
                try clear q121
                try clear q122
                obtain ⟨x24_3, rfl, HA, HK3, HO_10, HO_11, HB⟩ := hrel
                cases gk with
                | zero => exact absurd HA.out (by simp [lamplighterlaw12_AmapWrites.l1])
                | succ k3 =>
                  have H := HA.out
                  clear HA
                  simp only [lamplighterlaw12_AmapWrites.l1] at H
                  have HC35 := Aside0.mk H
                  clear H
                  go_upto_region 17 with (fail)
                  repeat (go_quiet (fail); go_upto_region 17 with (fail))
                  go_cut [110] (fun v110 wc => ∃ (kq : Nat) (x110_34 : Bool), v110 = .bool x110_34 ∧ Aside0 (lamplighterlaw12_AmapWrites.j3 kq l0 a1 a2 a3 t103 t105 t108 t111 t112 t114 t115 t116 t117 t118 t119 t120 x22_2 x24_3 x110_34 = some r) ∧ Aside0 (kq ≤ k3) ∧ Aside0 (Kd.R k53 53 wc w.heap.size (fun k_ => some k_ ≠ ((.slice Ao24 t108.length co24) : Value).ownBlock) (.slice Ao22 t105.length co22) t105) ∧ Aside0 (Kd.R k53 53 wc w.heap.size (fun k_ => some k_ ≠ ((.slice Ao22 t105.length co22) : Value).ownBlock) (.slice Ao24 t108.length co24) t108) ∧ Aside0 (Below w.heap.size w wc))
                  case first =>
                    have H := HC35.out
                    clear HC35
                    by_cases c36 : x24_3 < (t105.length : Int)
                    · rw [if_pos c36] at H
                      have c36b0 : decide (x24_3 < (t105.length : Int)) = true := decide_eq_true c36
                      clear c36
                      (first | rw [c36b0] | (simp only [i64_w, i32_w]; rw [c36b0]) | skip)
                      have H' := Aside0.mk H
                      clear H
                      go_wp2
                      repeat (go_quiet (fail); try go_wp2)
                      go_meet
                      case rel => exact ⟨_, (x22_2), (by first | rfl | (simp; done) | (simp [*]; done)), H', ⟨by have := HJ5.out; have := HK2.out; have := HK3.out; first | omega | exact Nat.le_refl _⟩, ⟨by (with_reducible repeat (first | apply Kd.R_alloc | apply Kd.R_drewN | apply Kd.R_drew)); exact HO_10.out⟩, ⟨by (with_reducible repeat (first | apply Kd.R_alloc | apply Kd.R_drewN | apply Kd.R_drew)); exact HO_11.out⟩, ⟨by repeat (first | (with_reducible first | exact HB.out | apply below_alloc | apply pw_below_drewN | apply below_drew1) | exact HB.out)⟩⟩
                    · rw [if_neg c36] at H
                      have c36b0 : decide (x24_3 < (t105.length : Int)) = false := decide_eq_false c36
                      clear c36
                      (first | rw [c36b0] | (simp only [i64_w, i32_w]; rw [c36b0]) | skip)
                      have H' := Aside0.mk H
                      clear H
                      go_wp2
                      repeat (go_quiet (fail); try go_wp2)
                      go_meet
                      case rel => exact ⟨_, (false), (by first | rfl | (simp; done) | (simp [*]; done)), H', ⟨by have := HJ5.out; have := HK2.out; have := HK3.out; first | omega | exact Nat.le_refl _⟩, ⟨by (with_reducible repeat (first | apply Kd.R_alloc | apply Kd.R_drewN | apply Kd.R_drew)); exact HO_10.out⟩, ⟨by (with_reducible repeat (first | apply Kd.R_alloc | apply Kd.R_drewN | apply Kd.R_drew)); exact HO_11.out⟩, ⟨by repeat (first | (with_reducible first | exact HB.out | apply below_alloc | apply pw_below_drewN | apply below_drew1) | exact HB.out)⟩⟩
                  case rest =>
                    clear HC35
                    try clear c1
                    try clear p1
                    try clear q1
                    try clear hx1
                    try clear c2
                    try clear p2
                    try clear c3
                    try clear p6
                    try clear c9
                    try clear c10
                    try clear c10b0
                    try clear c10b1
                    try clear c11
                    try clear c11b0
                    try clear c11b1
                    try clear c12
                    try clear p12
                    try clear q12
                    try clear hx12
                    try clear c29
                    try clear c29b0
                    try clear c30
                    try clear c31
                    try clear c31b0
                    try clear c33
                    try clear c33b0
                    try clear c34
                    try clear c34b0
                    try clear c36
                    try clear c36b0
                    try clear hx121_0
                    try clear hx121_1
                    try clear hx122_0
                    try clear hx122_1
                    try clear p1
                    try clear p12
                    try clear p121
                    try clear p122
                    try clear p2
                    try clear p6
                    try clear q1
                    try clear q12
                    try clear q121
                    try clear q122
                    obtain ⟨kq, x110_34, rfl, HA, HJ34, HO_10, HO_11, HB⟩ := hcut
                    cases kq with
                    | zero => exact absurd HA.out (by simp [lamplighterlaw12_AmapWrites.j3])
                    | succ kj34 =>
                      have H := HA.out
                      clear HA
                      simp only [lamplighterlaw12_AmapWrites.j3] at H
                      by_cases c37 : x110_34 = true
                      · subst c37
                        have H1 : (if 0 ≤ x24_3 then (if x24_3 < (t105.length : Int) then (if 0 ≤ (wrap64 (x24_3 - 1)) then (if (wrap64 (x24_3 - 1)) < (t105.length : Int) then (if ((Op.bytesLess (((rd_T53 t105 (wrap64 (x24_3 - 1))).f0).toList) (((rd_T53 t105 x24_3).f0).toList)) = true) then (lamplighterlaw12_AmapWrites.l1 kj34 l0 a1 a2 a3 t103 t105 t108 t111 t112 t114 t115 t116 t117 t118 t119 t120 x22_2 (wrap64 (x24_3 + 1))) else (none)) else (none)) else (none)) else (none)) else (none)) = some r := by rw [if_pos rfl] at H; exact H
                        clear H
                        have H := H1
                        clear H1
                        by_cases c38 : 0 ≤ x24_3
                        · rw [if_pos c38] at H
                          have c38b0 : decide (0 ≤ x24_3) = true := decide_eq_true c38
                          clear c38
                          by_cases c39 : x24_3 < (t105.length : Int)
                          · rw [if_pos c39] at H
                            have c39b0 : decide (x24_3 < (t105.length : Int)) = true := decide_eq_true c39
                            clear c39
                            obtain ⟨ji40, hji40⟩ : ∃ j_ : Int, (wrap64 (x24_3 - 1)) = j_ := ⟨_, rfl⟩
                            replace H : (if 0 ≤ (ji40) then (if (ji40) < (t105.length : Int) then (if ((Op.bytesLess (((rd_T53 t105 (ji40)).f0).toList) (((rd_T53 t105 x24_3).f0).toList)) = true) then (lamplighterlaw12_AmapWrites.l1 kj34 l0 a1 a2 a3 t103 t105 t108 t111 t112 t114 t115 t116 t117 t118 t119 t120 x22_2 (wrap64 (x24_3 + 1))) else (none)) else (none)) else (none)) = some r := by first | (rw [hji40] at H; exact H) | (simp only [hji40] at H ⊢; exact H)
                            have hji40w : (IntKind.i64.wrap (x24_3 - 1)) = ji40 := (i64_w _).trans hji40
                            by_cases c41 : 0 ≤ (ji40)
                            · rw [if_pos c41] at H
                              have c41b0 : decide (0 ≤ (ji40)) = true := decide_eq_true c41
                              clear c41
                              by_cases c42 : (ji40) < (t105.length : Int)
                              · rw [if_pos c42] at H
                                have c42b0 : decide ((ji40) < (t105.length : Int)) = true := decide_eq_true c42
                                clear c42
                                by_cases c43 : ((Op.bytesLess (((rd_T53 t105 (ji40)).f0).toList) (((rd_T53 t105 x24_3).f0).toList)) = true)
                                · rw [if_pos c43] at H
                                  have c43b0 : (Op.bytesLess (((rd_T53 t105 (ji40)).f0).toList) (((rd_T53 t105 x24_3).f0).toList)) = true := c43
                                  clear c43
                                  have H' := Aside0.mk H
                                  clear H
                                  have p123 : 0 ≤ (x24_3 : Int) := of_decide_eq_true (by first | (with_reducible assumption) | assumption)
                                  have q123 : x24_3 < (t105.length : Int) := of_decide_eq_true (by first | (with_reducible assumption) | assumption)
                                  obtain ⟨ad123, e123, hx123_0, hx123_1⟩ := at_T53 (Kd.R_reads' HO_10.out).2.2 x24_3 p123 q123
                                  cases e123
                                  replace p123 := eq_true p123
                                  replace q123 := eq_true q123
                                  have p124 : 0 ≤ ((ji40) : Int) := of_decide_eq_true (by first | (with_reducible assumption) | assumption)
                                  have q124 : (ji40) < (t105.length : Int) := of_decide_eq_true (by first | (with_reducible assumption) | assumption)
                                  obtain ⟨ad124, e124, hx124_0, hx124_1⟩ := at_T53 (Kd.R_reads' HO_10.out).2.2 (ji40) p124 q124
                                  obtain rfl : ad123 = ad124 := (by injection e124)
                                  replace p124 := eq_true p124
                                  replace q124 := eq_true q124
                                  go_wp2
                                  repeat (go_quiet (fail); try go_wp2)
                                  go_roundg kj34
                                  case measure => have := HJ5.out; have := HK2.out; have := HK3.out; have := HJ34.out; omega
                                  case rel => exact ⟨(wrap64 (x24_3 + 1)), (by first | rfl | (simp; done) | (simp [*]; done)), H', ⟨by have := HJ5.out; have := HK2.out; have := HK3.out; have := HJ34.out; omega⟩, ⟨by (with_reducible repeat (first | apply Kd.R_alloc | apply Kd.R_drewN | apply Kd.R_drew)); exact HO_10.out⟩, ⟨by (with_reducible repeat (first | apply Kd.R_alloc | apply Kd.R_drewN | apply Kd.R_drew)); exact HO_11.out⟩, ⟨by repeat (first | (with_reducible first | exact HB.out | apply below_alloc | apply pw_below_drewN | apply below_drew1) | exact HB.out)⟩⟩
                                · rw [if_neg c43] at H
                                  exact absurd H (by simp)
                              · rw [if_neg c42] at H
                                exact absurd H (by simp)
                            · rw [if_neg c41] at H
                              exact absurd H (by simp)
                          · rw [if_neg c39] at H
                            exact absurd H (by simp)
                        · rw [if_neg c38] at H
                          exact absurd H (by simp)
                      · replace c37 := Bool.eq_false_iff.mpr c37
                        subst c37
                        have H1 : (if a3.toList = a1.toList then (if t103 = true then (if t112 = true then (if t111.toList = a2.toList then (if t114 = true then (none) else (if (t105.length : Int) = (wrap64 ((t108.length : Int) + 1)) then (some (decide ((t108.length : Int) ≤ (l0.length : Int)))) else (none))) else (none)) else (none)) else (none)) else (if t115.toList = t117.toList then (if (t116 == t118) = true then (if t115.toList = t119.toList then (if t103 = true then (if t112 = true then (if t111.toList = a2.toList then (if t114 = true then (none) else (if (t116 == t120) = true then (if (t105.length : Int) = (wrap64 ((t108.length : Int) + 1)) then (some (decide ((t108.length : Int) ≤ (l0.length : Int)))) else (none)) else (none))) else (none)) else (none)) else (none)) else (if t103 = true then (if t112 = true then (if t111.toList = a2.toList then (if t114 = true then (none) else (none)) else (none)) else (none)) else (none))) else (if t103 = true then (if t112 = true then (if t111.toList = a2.toList then (if t114 = true then (none) else (none)) else (none)) else (none)) else (none))) else (if t103 = true then (if t112 = true then (if t111.toList = a2.toList then (if t114 = true then (none) else (none)) else (none)) else (none)) else (none)))) = some r := by rw [if_neg (show ¬ (false = true) by decide)] at H; exact H
                        clear H
                        have H := H1
                        clear H1
                        by_cases c44 : a3.toList = a1.toList
                        · rw [if_pos c44] at H
                          have c44b0 : (a3.toList == a1.toList) = true := beq_iff_eq.mpr c44
                          have c44b1 : (a3.toList != a1.toList) = false := bne_eq_false_iff_eq.mpr c44
                          clear c44
                          by_cases c45 : t103 = true
                          · subst c45
                            have H1 : (if t112 = true then (if t111.toList = a2.toList then (if t114 = true then (none) else (if (t105.length : Int) = (wrap64 ((t108.length : Int) + 1)) then (some (decide ((t108.length : Int) ≤ (l0.length : Int)))) else (none))) else (none)) else (none)) = some r := by rw [if_pos rfl] at H; exact H
                            clear H
                            have H := H1
                            clear H1
                            by_cases c46 : t112 = true
                            · subst c46
                              have H1 : (if t111.toList = a2.toList then (if t114 = true then (none) else (if (t105.length : Int) = (wrap64 ((t108.length : Int) + 1)) then (some (decide ((t108.length : Int) ≤ (l0.length : Int)))) else (none))) else (none)) = some r := by rw [if_pos rfl] at H; exact H
                              clear H
                              have H := H1
                              clear H1
                              by_cases c47 : t111.toList = a2.toList
                              · rw [if_pos c47] at H
                                have c47b0 : (t111.toList == a2.toList) = true := beq_iff_eq.mpr c47
                                have c47b1 : (t111.toList != a2.toList) = false := bne_eq_false_iff_eq.mpr c47
                                clear c47
                                by_cases c48 : t114 = true
                                · subst c48
                                  have H1 : (none) = some r := by rw [if_pos rfl] at H; exact H
                                  clear H
                                  have H := H1
                                  clear H1
                                  exact absurd H (by simp)
                                · replace c48 := Bool.eq_false_iff.mpr c48
                                  subst c48
                                  have H1 : (if (t105.length : Int) = (wrap64 ((t108.length : Int) + 1)) then (some (decide ((t108.length : Int) ≤ (l0.length : Int)))) else (none)) = some r := by rw [if_neg (show ¬ (false = true) by decide)] at H; exact H
                                  clear H
                                  have H := H1
                                  clear H1
                                  by_cases c49 : (t105.length : Int) = (wrap64 ((t108.length : Int) + 1))
                                  · rw [if_pos c49] at H
                                    have c49b0 : ((t105.length : Int) == (wrap64 ((t108.length : Int) + 1))) = true := beq_iff_eq.mpr c49
                                    have c49b1 : ((t105.length : Int) != (wrap64 ((t108.length : Int) + 1))) = false := bne_eq_false_iff_eq.mpr c49
                                    clear c49
                                    obtain rfl := Option.some.inj H
                                    go_wp2
                                    repeat (go_quiet (fail); try go_wp2)
                                    go_ret
                                    exact ⟨by first | rfl | (simp [errW_none, errW_some] <;> rfl) | (simp [*, errW_none, errW_some] <;> rfl), by repeat (first | (with_reducible first | exact HB.out | apply below_alloc | apply pw_below_drewN | apply below_drew1) | exact HB.out)⟩
                                  · rw [if_neg c49] at H
                                    exact absurd H (by simp)
                              · rw [if_neg c47] at H
                                exact absurd H (by simp)
                            · replace c46 := Bool.eq_false_iff.mpr c46
                              subst c46
                              have H1 : (none) = some r := by rw [if_neg (show ¬ (false = true) by decide)] at H; exact H
                              clear H
                              have H := H1
                              clear H1
                              exact absurd H (by simp)
                          · replace c45 := Bool.eq_false_iff.mpr c45
                            subst c45
                            have H1 : (none) = some r := by rw [if_neg (show ¬ (false = true) by decide)] at H; exact H
                            clear H
                            have H := H1
                            clear H1
                            exact absurd H (by simp)
                        · rw [if_neg c44] at H
                          have c44b0 : (a3.toList == a1.toList) = false := beq_eq_false_iff_ne.mpr c44
                          have c44b1 : (a3.toList != a1.toList) = true := bne_iff_ne.mpr c44
                          by_cases c50 : t115.toList = t117.toList
                          · rw [if_pos c50] at H
                            have c50b0 : (t115.toList == t117.toList) = true := beq_iff_eq.mpr c50
                            have c50b1 : (t115.toList != t117.toList) = false := bne_eq_false_iff_eq.mpr c50
                            clear c50
                            by_cases c51 : (t116 == t118) = true
                            · rw [if_pos c51] at H
                              have c51b0 : (t116 == t118) = true := c51
                              (try (have c51b1 : decide (t116 = t118) = true := by simpa using c51))
                              (try (have c51b2 : (t116 == t118) = true := by simpa using c51))
                              clear c51
                              by_cases c52 : t115.toList = t119.toList
                              · rw [if_pos c52] at H
                                have c52b0 : (t115.toList == t119.toList) = true := beq_iff_eq.mpr c52
                                have c52b1 : (t115.toList != t119.toList) = false := bne_eq_false_iff_eq.mpr c52
                                clear c52
                                by_cases c53 : t103 = true
                                · subst c53
                                  have H1 : (if t112 = true then (if t111.toList = a2.toList then (if t114 = true then (none) else (if (t116 == t120) = true then (if (t105.length : Int) = (wrap64 ((t108.length : Int) + 1)) then (some (decide ((t108.length : Int) ≤ (l0.length : Int)))) else (none)) else (none))) else (none)) else (none)) = some r := by rw [if_pos rfl] at H; exact H
                                  clear H
                                  have H := H1
                                  clear H1
                                  by_cases c54 : t112 = true
                                  · subst c54
                                    have H1 : (if t111.toList = a2.toList then (if t114 = true then (none) else (if (t116 == t120) = true then (if (t105.length : Int) = (wrap64 ((t108.length : Int) + 1)) then (some (decide ((t108.length : Int) ≤ (l0.length : Int)))) else (none)) else (none))) else (none)) = some r := by rw [if_pos rfl] at H; exact H
                                    clear H
                                    have H := H1
                                    clear H1
                                    by_cases c55 : t111.toList = a2.toList
                                    · rw [if_pos c55] at H
                                      have c55b0 : (t111.toList == a2.toList) = true := beq_iff_eq.mpr c55
                                      have c55b1 : (t111.toList != a2.toList) = false := bne_eq_false_iff_eq.mpr c55
                                      clear c55
                                      by_cases c56 : t114 = true
                                      · subst c56
                                        have H1 : (none) = some r := by rw [if_pos rfl] at H; exact H
                                        clear H
                                        have H := H1
                                        clear H1
                                        exact absurd H (by simp)
                                      · replace c56 := Bool.eq_false_iff.mpr c56
                                        subst c56
                                        have H1 : (if (t116 == t120) = true then (if (t105.length : Int) = (wrap64 ((t108.length : Int) + 1)) then (some (decide ((t108.length : Int) ≤ (l0.length : Int)))) else (none)) else (none)) = some r := by rw [if_neg (show ¬ (false = true) by decide)] at H; exact H
                                        clear H
                                        have H := H1
                                        clear H1
                                        by_cases c57 : (t116 == t120) = true
                                        · rw [if_pos c57] at H
                                          have c57b0 : (t116 == t120) = true := c57
                                          (try (have c57b1 : decide (t116 = t120) = true := by simpa using c57))
                                          (try (have c57b2 : (t116 == t120) = true := by simpa using c57))
                                          clear c57
                                          by_cases c58 : (t105.length : Int) = (wrap64 ((t108.length : Int) + 1))
                                          · rw [if_pos c58] at H
                                            have c58b0 : ((t105.length : Int) == (wrap64 ((t108.length : Int) + 1))) = true := beq_iff_eq.mpr c58
                                            have c58b1 : ((t105.length : Int) != (wrap64 ((t108.length : Int) + 1))) = false := bne_eq_false_iff_eq.mpr c58
                                            clear c58
                                            obtain rfl := Option.some.inj H
                                            go_wp2
                                            repeat (go_quiet (fail); try go_wp2)
                                            go_ret
                                            exact ⟨by first | rfl | (simp [errW_none, errW_some] <;> rfl) | (simp [*, errW_none, errW_some] <;> rfl), by repeat (first | (with_reducible first | exact HB.out | apply below_alloc | apply pw_below_drewN | apply below_drew1) | exact HB.out)⟩
                                          · rw [if_neg c58] at H
                                            exact absurd H (by simp)
                                        · rw [if_neg c57] at H
                                          exact absurd H (by simp)
                                    · rw [if_neg c55] at H
                                      exact absurd H (by simp)
                                  · replace c54 := Bool.eq_false_iff.mpr c54
                                    subst c54
                                    have H1 : (none) = some r := by rw [if_neg (show ¬ (false = true) by decide)] at H; exact H
                                    clear H
                                    have H := H1
                                    clear H1
                                    exact absurd H (by simp)
                                · replace c53 := Bool.eq_false_iff.mpr c53
                                  subst c53
                                  have H1 : (none) = some r := by rw [if_neg (show ¬ (false = true) by decide)] at H; exact H
                                  clear H
                                  have H := H1
                                  clear H1
                                  exact absurd H (by simp)
                              · rw [if_neg c52] at H
                                have c52b0 : (t115.toList == t119.toList) = false := beq_eq_false_iff_ne.mpr c52
                                have c52b1 : (t115.toList != t119.toList) = true := bne_iff_ne.mpr c52
                                by_cases c59 : t103 = true
                                · subst c59
                                  have H1 : (if t112 = true then (if t111.toList = a2.toList then (if t114 = true then (none) else (none)) else (none)) else (none)) = some r := by rw [if_pos rfl] at H; exact H
                                  clear H
                                  have H := H1
                                  clear H1
                                  by_cases c60 : t112 = true
                                  · subst c60
                                    have H1 : (if t111.toList = a2.toList then (if t114 = true then (none) else (none)) else (none)) = some r := by rw [if_pos rfl] at H; exact H
                                    clear H
                                    have H := H1
                                    clear H1
                                    by_cases c61 : t111.toList = a2.toList
                                    · rw [if_pos c61] at H
                                      have c61b0 : (t111.toList == a2.toList) = true := beq_iff_eq.mpr c61
                                      have c61b1 : (t111.toList != a2.toList) = false := bne_eq_false_iff_eq.mpr c61
                                      clear c61
                                      by_cases c62 : t114 = true
                                      · subst c62
                                        have H1 : (none) = some r := by rw [if_pos rfl] at H; exact H
                                        clear H
                                        have H := H1
                                        clear H1
                                        exact absurd H (by simp)
                                      · replace c62 := Bool.eq_false_iff.mpr c62
                                        subst c62
                                        have H1 : (none) = some r := by rw [if_neg (show ¬ (false = true) by decide)] at H; exact H
                                        clear H
                                        have H := H1
                                        clear H1
                                        exact absurd H (by simp)
                                    · rw [if_neg c61] at H
                                      exact absurd H (by simp)
                                  · replace c60 := Bool.eq_false_iff.mpr c60
                                    subst c60
                                    have H1 : (none) = some r := by rw [if_neg (show ¬ (false = true) by decide)] at H; exact H
                                    clear H
                                    have H := H1
                                    clear H1
                                    exact absurd H (by simp)
                                · replace c59 := Bool.eq_false_iff.mpr c59
                                  subst c59
                                  have H1 : (none) = some r := by rw [if_neg (show ¬ (false = true) by decide)] at H; exact H
                                  clear H
                                  have H := H1
                                  clear H1
                                  exact absurd H (by simp)
                            · rw [if_neg c51] at H
                              have c51b0 : (t116 == t118) = false := by simpa using c51
                              (try (have c51b1 : decide (t116 = t118) = false := by simpa using c51))
                              (try (have c51b2 : (t116 == t118) = false := by simpa using c51))
                              (try (have c51b3 : ¬ (t116 = t118) := by simpa using c51))
                              clear c51
                              by_cases c63 : t103 = true
                              · subst c63
                                have H1 : (if t112 = true then (if t111.toList = a2.toList then (if t114 = true then (none) else (none)) else (none)) else (none)) = some r := by rw [if_pos rfl] at H; exact H
                                clear H
                                have H := H1
                                clear H1
                                by_cases c64 : t112 = true
                                · subst c64
                                  have H1 : (if t111.toList = a2.toList then (if t114 = true then (none) else (none)) else (none)) = some r := by rw [if_pos rfl] at H; exact H
                                  clear H
                                  have H := H1
                                  clear H1
                                  by_cases c65 : t111.toList = a2.toList
                                  · rw [if_pos c65] at H
                                    have c65b0 : (t111.toList == a2.toList) = true := beq_iff_eq.mpr c65
                                    have c65b1 : (t111.toList != a2.toList) = false := bne_eq_false_iff_eq.mpr c65
                                    clear c65
                                    by_cases c66 : t114 = true
                                    · subst c66
                                      have H1 : (none) = some r := by rw [if_pos rfl] at H; exact H
                                      clear H
                                      have H := H1
                                      clear H1
                                      exact absurd H (by simp)
                                    · replace c66 := Bool.eq_false_iff.mpr c66
                                      subst c66
                                      have H1 : (none) = some r := by rw [if_neg (show ¬ (false = true) by decide)] at H; exact H
                                      clear H
                                      have H := H1
                                      clear H1
                                      exact absurd H (by simp)
                                  · rw [if_neg c65] at H
                                    exact absurd H (by simp)
                                · replace c64 := Bool.eq_false_iff.mpr c64
                                  subst c64
                                  have H1 : (none) = some r := by rw [if_neg (show ¬ (false = true) by decide)] at H; exact H
                                  clear H
                                  have H := H1
                                  clear H1
                                  exact absurd H (by simp)
                              · replace c63 := Bool.eq_false_iff.mpr c63
                                subst c63
                                have H1 : (none) = some r := by rw [if_neg (show ¬ (false = true) by decide)] at H; exact H
                                clear H
                                have H := H1
                                clear H1
                                exact absurd H (by simp)
                          · rw [if_neg c50] at H
                            have c50b0 : (t115.toList == t117.toList) = false := beq_eq_false_iff_ne.mpr c50
                            have c50b1 : (t115.toList != t117.toList) = true := bne_iff_ne.mpr c50
                            by_cases c67 : t103 = true
                            · subst c67
                              have H1 : (if t112 = true then (if t111.toList = a2.toList then (if t114 = true then (none) else (none)) else (none)) else (none)) = some r := by rw [if_pos rfl] at H; exact H
                              clear H
                              have H := H1
                              clear H1
                              by_cases c68 : t112 = true
                              · subst c68
                                have H1 : (if t111.toList = a2.toList then (if t114 = true then (none) else (none)) else (none)) = some r := by rw [if_pos rfl] at H; exact H
                                clear H
                                have H := H1
                                clear H1
                                by_cases c69 : t111.toList = a2.toList
                                · rw [if_pos c69] at H
                                  have c69b0 : (t111.toList == a2.toList) = true := beq_iff_eq.mpr c69
                                  have c69b1 : (t111.toList != a2.toList) = false := bne_eq_false_iff_eq.mpr c69
                                  clear c69
                                  by_cases c70 : t114 = true
                                  · subst c70
                                    have H1 : (none) = some r := by rw [if_pos rfl] at H; exact H
                                    clear H
                                    have H := H1
                                    clear H1
                                    exact absurd H (by simp)
                                  · replace c70 := Bool.eq_false_iff.mpr c70
                                    subst c70
                                    have H1 : (none) = some r := by rw [if_neg (show ¬ (false = true) by decide)] at H; exact H
                                    clear H
                                    have H := H1
                                    clear H1
                                    exact absurd H (by simp)
                                · rw [if_neg c69] at H
                                  exact absurd H (by simp)
                              · replace c68 := Bool.eq_false_iff.mpr c68
                                subst c68
                                have H1 : (none) = some r := by rw [if_neg (show ¬ (false = true) by decide)] at H; exact H
                                clear H
                                have H := H1
                                clear H1
                                exact absurd H (by simp)
                            · replace c67 := Bool.eq_false_iff.mpr c67
                              subst c67
                              have H1 : (none) = some r := by rw [if_neg (show ¬ (false = true) by decide)] at H; exact H
                              clear H
                              have H := H1
                              clear H1
                              exact absurd H (by simp)

end
end Go.Proofs.Ytliaemoomhfcdaa.BW
