/- Written by this session's own program (hprint.py) with the help of the kit's print. Lean checks it. -/
import Derived.Test.YtdblecmelmeibaaPLx0
import Derived.Test.YtdblecmelmeibaaPLx2
import Derived.Test.YtdblecmelmeibaaPLx3
namespace Go.Proofs.Ytdblecmelmeibaa.PL
open Go.RowKit Go.Proofs.YtdblecmelmeibaaW.PrintWords Go.Proofs.YtdblecmelmeibaaW.PrintLast Go.Proofs.YtdblecmelmeibaaW.PrintMore
attribute [local go_sem] max2_int min2_int max_two min_two max_three min_three max_four min_four   -- for this text's walks alone
set_option linter.unusedVariables false
set_option linter.unusedSimpArgs false
noncomputable section

/-! ### lamplighterref22_order: function 20 -/
mutual
def lamplighterref22_order.l0 : Nat → ByteArray → Bool → List (S37) → ByteArray → Bool → Bool → Int → Option (Bool)
  | 0, _, _, _, _, _, _, _ => none
  | k + 1, x0, x1, x2, x3, x4, x11, x12 => if x12 < (x2.length : Int) then (if x11 = true then (lamplighterref22_order.l0 k x0 x1 x2 x3 x4 true (wrap64 (x12 + 1))) else (if 0 ≤ x12 then (lamplighterref22_order.l0 k x0 x1 x2 x3 x4 ((rd_T37 x2 x12).f5) (wrap64 (x12 + 1))) else (none))) else (if x11 = true then (lamplighterref22_order.j1 k x0 x1 x2 x3 x4 false) else (if (x1 == x4) = true then (if x1 = true then (lamplighterref22_order.j1 k x0 x1 x2 x3 x4 (x0.toList == x3.toList)) else (lamplighterref22_order.j1 k x0 x1 x2 x3 x4 true)) else (lamplighterref22_order.j1 k x0 x1 x2 x3 x4 false)))
def lamplighterref22_order.j1 : Nat → ByteArray → Bool → List (S37) → ByteArray → Bool → Bool → Option (Bool)
  | 0, _, _, _, _, _, _ => none
  | k + 1, x0, x1, x2, x3, x4, x49 => if x49 = true then (some true) else (lamplighterref22_order.l1 k x0 x1 x2 x3 x4 0)
def lamplighterref22_order.l1 : Nat → ByteArray → Bool → List (S37) → ByteArray → Bool → Int → Option (Bool)
  | 0, _, _, _, _, _, _ => none
  | k + 1, x0, x1, x2, x3, x4, x13 => if x13 < (x2.length : Int) then (if 0 ≤ x13 then ((lamplighterref22_first.f k x2 x13).bind fun t120 => ((lamplighterref22_fits.f ((rd_T37 x2 x13).f0) ((rd_T37 x2 x13).f1) ((rd_T37 x2 x13).f2) ((rd_T37 x2 x13).f3) ((rd_T37 x2 x13).f4) ((rd_T37 x2 x13).f5) x0 x1).bind fun t121 => (if t120 = true then (if t121 = true then (if ((rd_T37 x2 x13).f2) < 1 then (lamplighterref22_order.j3 k x0 x1 x2 x3 x4 x13 true ((rd_T37 x2 x13).f0) ((rd_T37 x2 x13).f1) ((rd_T37 x2 x13).f2) ((rd_T37 x2 x13).f3) ((rd_T37 x2 x13).f4) ((rd_T37 x2 x13).f5)) else (lamplighterref22_order.j3 k x0 x1 x2 x3 x4 x13 (decide (((rd_T37 x2 x13).f2) > 3)) ((rd_T37 x2 x13).f0) ((rd_T37 x2 x13).f1) ((rd_T37 x2 x13).f2) ((rd_T37 x2 x13).f3) ((rd_T37 x2 x13).f4) ((rd_T37 x2 x13).f5))) else (lamplighterref22_order.j3 k x0 x1 x2 x3 x4 x13 true ((rd_T37 x2 x13).f0) ((rd_T37 x2 x13).f1) ((rd_T37 x2 x13).f2) ((rd_T37 x2 x13).f3) ((rd_T37 x2 x13).f4) ((rd_T37 x2 x13).f5))) else (lamplighterref22_order.j3 k x0 x1 x2 x3 x4 x13 true ((rd_T37 x2 x13).f0) ((rd_T37 x2 x13).f1) ((rd_T37 x2 x13).f2) ((rd_T37 x2 x13).f3) ((rd_T37 x2 x13).f4) ((rd_T37 x2 x13).f5))))) else (none)) else (some false)
def lamplighterref22_order.j3 : Nat → ByteArray → Bool → List (S37) → ByteArray → Bool → Int → Bool → Int → Int → Int → ByteArray → Bool → Bool → Option (Bool)
  | 0, _, _, _, _, _, _, _, _, _, _, _, _, _ => none
  | k + 1, x0, x1, x2, x3, x4, x13, x82, x120000, x120001, x120002, x120003, x120004, x120005 => if x82 = true then (lamplighterref22_order.l1 k x0 x1 x2 x3 x4 (wrap64 (x13 + 1))) else (if x120002 = 1 then (lamplighterref22_order.j4 k x0 x1 x2 x3 x4 x13 x120003 true x120000 x120001 x120002 x120003 x120004 x120005) else (lamplighterref22_order.j4 k x0 x1 x2 x3 x4 x13 x0 x1 x120000 x120001 x120002 x120003 x120004 x120005))
def lamplighterref22_order.j4 : Nat → ByteArray → Bool → List (S37) → ByteArray → Bool → Int → ByteArray → Bool → Int → Int → Int → ByteArray → Bool → Bool → Option (Bool)
  | 0, _, _, _, _, _, _, _, _, _, _, _, _, _, _ => none
  | k + 1, x0, x1, x2, x3, x4, x13, x17, x18, x120000, x120001, x120002, x120003, x120004, x120005 => if x120002 = 3 then (lamplighterref22_order.j5 k x0 x1 x2 x3 x4 x13 (⟨#[]⟩ : ByteArray) false) else (lamplighterref22_order.j5 k x0 x1 x2 x3 x4 x13 x17 x18)
def lamplighterref22_order.j5 : Nat → ByteArray → Bool → List (S37) → ByteArray → Bool → Int → ByteArray → Bool → Option (Bool)
  | 0, _, _, _, _, _, _, _, _ => none
  | k + 1, x0, x1, x2, x3, x4, x13, x17, x18 => (lamplighterref22_rest.f k x2 x13).bind fun t122 => ((lamplighterref22_order.f k x17 x18 t122 x3 x4).bind fun t125 => (if t125 = true then (some true) else (lamplighterref22_order.l1 k x0 x1 x2 x3 x4 (wrap64 (x13 + 1)))))
def lamplighterref22_order.f : Nat → ByteArray → Bool → List (S37) → ByteArray → Bool → Option (Bool)
  | 0, _, _, _, _, _ => none
  | k + 1, a0, a1, l2, a3, a4 => lamplighterref22_order.l0 k a0 a1 l2 a3 a4 false 0
end
theorem lamplighterref22_order.mono_l : ∀ k, (∀ y0 y1 y2 y3 y4, LeO (lamplighterref22_order.f k y0 y1 y2 y3 y4) (lamplighterref22_order.f (k + 1) y0 y1 y2 y3 y4)) ∧ (∀ y0 y1 y2 y3 y4 y5 y6, LeO (lamplighterref22_order.l0 k y0 y1 y2 y3 y4 y5 y6) (lamplighterref22_order.l0 (k + 1) y0 y1 y2 y3 y4 y5 y6)) ∧ (∀ y0 y1 y2 y3 y4 y5, LeO (lamplighterref22_order.j1 k y0 y1 y2 y3 y4 y5) (lamplighterref22_order.j1 (k + 1) y0 y1 y2 y3 y4 y5)) ∧ (∀ y0 y1 y2 y3 y4 y5, LeO (lamplighterref22_order.l1 k y0 y1 y2 y3 y4 y5) (lamplighterref22_order.l1 (k + 1) y0 y1 y2 y3 y4 y5)) ∧ (∀ y0 y1 y2 y3 y4 y5 y6 y7 y8 y9 y10 y11 y12, LeO (lamplighterref22_order.j3 k y0 y1 y2 y3 y4 y5 y6 y7 y8 y9 y10 y11 y12) (lamplighterref22_order.j3 (k + 1) y0 y1 y2 y3 y4 y5 y6 y7 y8 y9 y10 y11 y12)) ∧ (∀ y0 y1 y2 y3 y4 y5 y6 y7 y8 y9 y10 y11 y12 y13, LeO (lamplighterref22_order.j4 k y0 y1 y2 y3 y4 y5 y6 y7 y8 y9 y10 y11 y12 y13) (lamplighterref22_order.j4 (k + 1) y0 y1 y2 y3 y4 y5 y6 y7 y8 y9 y10 y11 y12 y13)) ∧ (∀ y0 y1 y2 y3 y4 y5 y6 y7, LeO (lamplighterref22_order.j5 k y0 y1 y2 y3 y4 y5 y6 y7) (lamplighterref22_order.j5 (k + 1) y0 y1 y2 y3 y4 y5 y6 y7))
  | 0 => ⟨fun _ _ _ _ _ r h => by simp [lamplighterref22_order.f] at h, fun _ _ _ _ _ _ _ r h => by simp [lamplighterref22_order.l0] at h, fun _ _ _ _ _ _ r h => by simp [lamplighterref22_order.j1] at h, fun _ _ _ _ _ _ r h => by simp [lamplighterref22_order.l1] at h, fun _ _ _ _ _ _ _ _ _ _ _ _ _ r h => by simp [lamplighterref22_order.j3] at h, fun _ _ _ _ _ _ _ _ _ _ _ _ _ _ r h => by simp [lamplighterref22_order.j4] at h, fun _ _ _ _ _ _ _ _ r h => by simp [lamplighterref22_order.j5] at h⟩
  | k + 1 => by
    obtain ⟨ih0, ih1, ih2, ih3, ih4, ih5, ih6⟩ := lamplighterref22_order.mono_l k
    refine ⟨?_, ?_, ?_, ?_, ?_, ?_, ?_⟩
    · intro y0 y1 y2 y3 y4
      unfold lamplighterref22_order.f
      repeat' first
      | (with_reducible exact ih0 _ _ _ _ _)
      | (with_reducible exact ih1 _ _ _ _ _ _ _)
      | (with_reducible exact ih2 _ _ _ _ _ _)
      | (with_reducible exact ih3 _ _ _ _ _ _)
      | (with_reducible exact ih4 _ _ _ _ _ _ _ _ _ _ _ _ _)
      | (with_reducible exact ih5 _ _ _ _ _ _ _ _ _ _ _ _ _ _)
      | (with_reducible exact ih6 _ _ _ _ _ _ _ _)
      | (with_reducible exact lamplighterref22_first.mono _ _ _)
      | (with_reducible exact lamplighterref22_rest.mono _ _ _)
      | (with_reducible exact LeO.refl _)
      | (with_reducible exact LeO.none _)
      | (with_reducible refine LeO.ite ?_ ?_)
      | (with_reducible refine LeO.bind ?_ (fun _ => ?_))
      | exact ih0 _ _ _ _ _
      | exact ih1 _ _ _ _ _ _ _
      | exact ih2 _ _ _ _ _ _
      | exact ih3 _ _ _ _ _ _
      | exact ih4 _ _ _ _ _ _ _ _ _ _ _ _ _
      | exact ih5 _ _ _ _ _ _ _ _ _ _ _ _ _ _
      | exact ih6 _ _ _ _ _ _ _ _
      | exact lamplighterref22_first.mono _ _ _
      | exact lamplighterref22_rest.mono _ _ _
      | exact LeO.none _
      | refine LeO.ite ?_ ?_
      | refine LeO.bind ?_ (fun _ => ?_)
    · intro y0 y1 y2 y3 y4 y5 y6
      unfold lamplighterref22_order.l0
      repeat' first
      | (with_reducible exact ih0 _ _ _ _ _)
      | (with_reducible exact ih1 _ _ _ _ _ _ _)
      | (with_reducible exact ih2 _ _ _ _ _ _)
      | (with_reducible exact ih3 _ _ _ _ _ _)
      | (with_reducible exact ih4 _ _ _ _ _ _ _ _ _ _ _ _ _)
      | (with_reducible exact ih5 _ _ _ _ _ _ _ _ _ _ _ _ _ _)
      | (with_reducible exact ih6 _ _ _ _ _ _ _ _)
      | (with_reducible exact lamplighterref22_first.mono _ _ _)
      | (with_reducible exact lamplighterref22_rest.mono _ _ _)
      | (with_reducible exact LeO.refl _)
      | (with_reducible exact LeO.none _)
      | (with_reducible refine LeO.ite ?_ ?_)
      | (with_reducible refine LeO.bind ?_ (fun _ => ?_))
      | exact ih0 _ _ _ _ _
      | exact ih1 _ _ _ _ _ _ _
      | exact ih2 _ _ _ _ _ _
      | exact ih3 _ _ _ _ _ _
      | exact ih4 _ _ _ _ _ _ _ _ _ _ _ _ _
      | exact ih5 _ _ _ _ _ _ _ _ _ _ _ _ _ _
      | exact ih6 _ _ _ _ _ _ _ _
      | exact lamplighterref22_first.mono _ _ _
      | exact lamplighterref22_rest.mono _ _ _
      | exact LeO.none _
      | refine LeO.ite ?_ ?_
      | refine LeO.bind ?_ (fun _ => ?_)
    · intro y0 y1 y2 y3 y4 y5
      unfold lamplighterref22_order.j1
      repeat' first
      | (with_reducible exact ih0 _ _ _ _ _)
      | (with_reducible exact ih1 _ _ _ _ _ _ _)
      | (with_reducible exact ih2 _ _ _ _ _ _)
      | (with_reducible exact ih3 _ _ _ _ _ _)
      | (with_reducible exact ih4 _ _ _ _ _ _ _ _ _ _ _ _ _)
      | (with_reducible exact ih5 _ _ _ _ _ _ _ _ _ _ _ _ _ _)
      | (with_reducible exact ih6 _ _ _ _ _ _ _ _)
      | (with_reducible exact lamplighterref22_first.mono _ _ _)
      | (with_reducible exact lamplighterref22_rest.mono _ _ _)
      | (with_reducible exact LeO.refl _)
      | (with_reducible exact LeO.none _)
      | (with_reducible refine LeO.ite ?_ ?_)
      | (with_reducible refine LeO.bind ?_ (fun _ => ?_))
      | exact ih0 _ _ _ _ _
      | exact ih1 _ _ _ _ _ _ _
      | exact ih2 _ _ _ _ _ _
      | exact ih3 _ _ _ _ _ _
      | exact ih4 _ _ _ _ _ _ _ _ _ _ _ _ _
      | exact ih5 _ _ _ _ _ _ _ _ _ _ _ _ _ _
      | exact ih6 _ _ _ _ _ _ _ _
      | exact lamplighterref22_first.mono _ _ _
      | exact lamplighterref22_rest.mono _ _ _
      | exact LeO.none _
      | refine LeO.ite ?_ ?_
      | refine LeO.bind ?_ (fun _ => ?_)
    · intro y0 y1 y2 y3 y4 y5
      unfold lamplighterref22_order.l1
      repeat' first
      | (with_reducible exact ih0 _ _ _ _ _)
      | (with_reducible exact ih1 _ _ _ _ _ _ _)
      | (with_reducible exact ih2 _ _ _ _ _ _)
      | (with_reducible exact ih3 _ _ _ _ _ _)
      | (with_reducible exact ih4 _ _ _ _ _ _ _ _ _ _ _ _ _)
      | (with_reducible exact ih5 _ _ _ _ _ _ _ _ _ _ _ _ _ _)
      | (with_reducible exact ih6 _ _ _ _ _ _ _ _)
      | (with_reducible exact lamplighterref22_first.mono _ _ _)
      | (with_reducible exact lamplighterref22_rest.mono _ _ _)
      | (with_reducible exact LeO.refl _)
      | (with_reducible exact LeO.none _)
      | (with_reducible refine LeO.ite ?_ ?_)
      | (with_reducible refine LeO.bind ?_ (fun _ => ?_))
      | exact ih0 _ _ _ _ _
      | exact ih1 _ _ _ _ _ _ _
      | exact ih2 _ _ _ _ _ _
      | exact ih3 _ _ _ _ _ _
      | exact ih4 _ _ _ _ _ _ _ _ _ _ _ _ _
      | exact ih5 _ _ _ _ _ _ _ _ _ _ _ _ _ _
      | exact ih6 _ _ _ _ _ _ _ _
      | exact lamplighterref22_first.mono _ _ _
      | exact lamplighterref22_rest.mono _ _ _
      | exact LeO.none _
      | refine LeO.ite ?_ ?_
      | refine LeO.bind ?_ (fun _ => ?_)
    · intro y0 y1 y2 y3 y4 y5 y6 y7 y8 y9 y10 y11 y12
      unfold lamplighterref22_order.j3
      repeat' first
      | (with_reducible exact ih0 _ _ _ _ _)
      | (with_reducible exact ih1 _ _ _ _ _ _ _)
      | (with_reducible exact ih2 _ _ _ _ _ _)
      | (with_reducible exact ih3 _ _ _ _ _ _)
      | (with_reducible exact ih4 _ _ _ _ _ _ _ _ _ _ _ _ _)
      | (with_reducible exact ih5 _ _ _ _ _ _ _ _ _ _ _ _ _ _)
      | (with_reducible exact ih6 _ _ _ _ _ _ _ _)
      | (with_reducible exact lamplighterref22_first.mono _ _ _)
      | (with_reducible exact lamplighterref22_rest.mono _ _ _)
      | (with_reducible exact LeO.refl _)
      | (with_reducible exact LeO.none _)
      | (with_reducible refine LeO.ite ?_ ?_)
      | (with_reducible refine LeO.bind ?_ (fun _ => ?_))
      | exact ih0 _ _ _ _ _
      | exact ih1 _ _ _ _ _ _ _
      | exact ih2 _ _ _ _ _ _
      | exact ih3 _ _ _ _ _ _
      | exact ih4 _ _ _ _ _ _ _ _ _ _ _ _ _
      | exact ih5 _ _ _ _ _ _ _ _ _ _ _ _ _ _
      | exact ih6 _ _ _ _ _ _ _ _
      | exact lamplighterref22_first.mono _ _ _
      | exact lamplighterref22_rest.mono _ _ _
      | exact LeO.none _
      | refine LeO.ite ?_ ?_
      | refine LeO.bind ?_ (fun _ => ?_)
    · intro y0 y1 y2 y3 y4 y5 y6 y7 y8 y9 y10 y11 y12 y13
      unfold lamplighterref22_order.j4
      repeat' first
      | (with_reducible exact ih0 _ _ _ _ _)
      | (with_reducible exact ih1 _ _ _ _ _ _ _)
      | (with_reducible exact ih2 _ _ _ _ _ _)
      | (with_reducible exact ih3 _ _ _ _ _ _)
      | (with_reducible exact ih4 _ _ _ _ _ _ _ _ _ _ _ _ _)
      | (with_reducible exact ih5 _ _ _ _ _ _ _ _ _ _ _ _ _ _)
      | (with_reducible exact ih6 _ _ _ _ _ _ _ _)
      | (with_reducible exact lamplighterref22_first.mono _ _ _)
      | (with_reducible exact lamplighterref22_rest.mono _ _ _)
      | (with_reducible exact LeO.refl _)
      | (with_reducible exact LeO.none _)
      | (with_reducible refine LeO.ite ?_ ?_)
      | (with_reducible refine LeO.bind ?_ (fun _ => ?_))
      | exact ih0 _ _ _ _ _
      | exact ih1 _ _ _ _ _ _ _
      | exact ih2 _ _ _ _ _ _
      | exact ih3 _ _ _ _ _ _
      | exact ih4 _ _ _ _ _ _ _ _ _ _ _ _ _
      | exact ih5 _ _ _ _ _ _ _ _ _ _ _ _ _ _
      | exact ih6 _ _ _ _ _ _ _ _
      | exact lamplighterref22_first.mono _ _ _
      | exact lamplighterref22_rest.mono _ _ _
      | exact LeO.none _
      | refine LeO.ite ?_ ?_
      | refine LeO.bind ?_ (fun _ => ?_)
    · intro y0 y1 y2 y3 y4 y5 y6 y7
      unfold lamplighterref22_order.j5
      repeat' first
      | (with_reducible exact ih0 _ _ _ _ _)
      | (with_reducible exact ih1 _ _ _ _ _ _ _)
      | (with_reducible exact ih2 _ _ _ _ _ _)
      | (with_reducible exact ih3 _ _ _ _ _ _)
      | (with_reducible exact ih4 _ _ _ _ _ _ _ _ _ _ _ _ _)
      | (with_reducible exact ih5 _ _ _ _ _ _ _ _ _ _ _ _ _ _)
      | (with_reducible exact ih6 _ _ _ _ _ _ _ _)
      | (with_reducible exact lamplighterref22_first.mono _ _ _)
      | (with_reducible exact lamplighterref22_rest.mono _ _ _)
      | (with_reducible exact LeO.refl _)
      | (with_reducible exact LeO.none _)
      | (with_reducible refine LeO.ite ?_ ?_)
      | (with_reducible refine LeO.bind ?_ (fun _ => ?_))
      | exact ih0 _ _ _ _ _
      | exact ih1 _ _ _ _ _ _ _
      | exact ih2 _ _ _ _ _ _
      | exact ih3 _ _ _ _ _ _
      | exact ih4 _ _ _ _ _ _ _ _ _ _ _ _ _
      | exact ih5 _ _ _ _ _ _ _ _ _ _ _ _ _ _
      | exact ih6 _ _ _ _ _ _ _ _
      | exact lamplighterref22_first.mono _ _ _
      | exact lamplighterref22_rest.mono _ _ _
      | exact LeO.none _
      | refine LeO.ite ?_ ?_
      | refine LeO.bind ?_ (fun _ => ?_)
theorem lamplighterref22_order.mono : ∀ a0 a1 a2 a3 a4 k, LeO (lamplighterref22_order.f k a0 a1 a2 a3 a4) (lamplighterref22_order.f (k + 1) a0 a1 a2 a3 a4) := by
  intro a0 a1 a2 a3 a4 k
  obtain ⟨ih0, ih1, ih2, ih3, ih4, ih5, ih6⟩ := lamplighterref22_order.mono_l k
  exact ih0 a0 a1 a2 a3 a4
set_option maxHeartbeats 8000000 in
set_option maxRecDepth 100000 in
theorem lamplighterref22_order.calls (k : Nat) : ∀ (a0 : ByteArray) (a1 : Bool) (A2 : Option Addr) (c2 : Nat) (l2 : List (S37)) (a3 : ByteArray) (a4 : Bool) (r : Bool) (w : World) (hr2 : Kd.C k37 w A2 l2.length l2) (hc2 : l2.length ≤ c2) (h : lamplighterref22_order.f k a0 a1 l2 a3 a4 = some r),
    Calls Try.prog 20 #[.string a0, .bool a1, .slice A2 l2.length c2, .string a3, .bool a4] w fun e w' => e = .returned (.bool r) ∧ Below w.heap.size w w' := by
  induction k using Nat.strongRecOn with
  | _ k ih =>
  intro a0 a1 A2 c2 l2 a3 a4 r w hr2 hc2 h
  cases k with
  | zero => exact absurd h (by simp [lamplighterref22_order.f])
  | succ k =>
  simp only [lamplighterref22_order.f] at h
  have hu37 := Try.underlying37
  have HR2 := Aside0.mk hr2
  have HC2 := Aside0.mk hc2
  clear hr2 hc2
  have HB := Aside0.mk (Below.refl w.heap.size w)
  have H : (lamplighterref22_order.l0 k a0 a1 l2 a3 a4 false 0) = some r := h
  clear h
  have H' := Aside0.mk H
  clear H
  go_enter Try.func20, Try.ntmps20
  go_wp2
  go_loopg [11, 12] k (fun kq v11 v12 w' => ∃ (x11_1 : Bool) (x12_1 : Int), v11 = .bool x11_1 ∧ v12 = .int .i64 x12_1 ∧ Aside0 (lamplighterref22_order.l0 kq a0 a1 l2 a3 a4 x11_1 x12_1 = some r) ∧ Aside0 (kq ≤ k) ∧ Aside0 (Below w.heap.size w w'))
  case atStart => exact ⟨(false), (0), (by first | rfl | (simp; done) | (simp [*]; done)), (by first | rfl | (simp; done) | (simp [*]; done)), H', ⟨Nat.le_refl _⟩, ⟨by repeat (first | (with_reducible first | exact HB.out | apply below_alloc | apply pw_below_drewN | apply below_drew1) | exact HB.out)⟩⟩
  case round =>
    clear H'
    try clear c2
    try clear p2
    obtain ⟨x11_1, x12_1, rfl, rfl, HA, HK1, HB⟩ := hrel
    cases gk with
    | zero => exact absurd HA.out (by simp [lamplighterref22_order.l0])
    | succ k1 =>
      have H := HA.out
      clear HA
      simp only [lamplighterref22_order.l0] at H
      by_cases c6 : x12_1 < (l2.length : Int)
      · rw [if_pos c6] at H
        have c6b0 : decide (x12_1 < (l2.length : Int)) = true := decide_eq_true c6
        clear c6
        by_cases c7 : x11_1 = true
        · subst c7
          have H1 : (lamplighterref22_order.l0 k1 a0 a1 l2 a3 a4 true (wrap64 (x12_1 + 1))) = some r := by rw [if_pos rfl] at H; exact H
          clear H
          have H := H1
          clear H1
          have H' := Aside0.mk H
          clear H
          go_wp2
          go_roundg k1
          case measure => have := HK1.out; omega
          case rel => exact ⟨(true), (wrap64 (x12_1 + 1)), (by first | rfl | (simp; done) | (simp [*]; done)), (by first | rfl | (simp; done) | (simp [*]; done)), H', ⟨by have := HK1.out; omega⟩, ⟨by repeat (first | (with_reducible first | exact HB.out | apply below_alloc | apply pw_below_drewN | apply below_drew1) | exact HB.out)⟩⟩
        · replace c7 := Bool.eq_false_iff.mpr c7
          subst c7
          have H1 : (if 0 ≤ x12_1 then (lamplighterref22_order.l0 k1 a0 a1 l2 a3 a4 ((rd_T37 l2 x12_1).f5) (wrap64 (x12_1 + 1))) else (none)) = some r := by rw [if_neg (show ¬ (false = true) by decide)] at H; exact H
          clear H
          have H := H1
          clear H1
          by_cases c8 : 0 ≤ x12_1
          · rw [if_pos c8] at H
            have c8b0 : decide (0 ≤ x12_1) = true := decide_eq_true c8
            clear c8
            have H' := Aside0.mk H
            clear H
            have p117 : 0 ≤ (x12_1 : Int) := of_decide_eq_true (by first | (with_reducible assumption) | assumption)
            have q117 : x12_1 < (l2.length : Int) := of_decide_eq_true (by first | (with_reducible assumption) | assumption)
            obtain ⟨ad117, e117, hx117_0, hx117_1, hx117_2, hx117_3, hx117_4, hx117_5⟩ := at_T37 HR2.out x12_1 p117 q117
            cases e117
            replace hx117_0 := (HB.out.cell (World.block_lt_of_cell? w _ hx117_0)).trans hx117_0
            replace hx117_1 := (HB.out.cell (World.block_lt_of_cell? w _ hx117_1)).trans hx117_1
            replace hx117_2 := (HB.out.cell (World.block_lt_of_cell? w _ hx117_2)).trans hx117_2
            replace hx117_3 := (HB.out.cell (World.block_lt_of_cell? w _ hx117_3)).trans hx117_3
            replace hx117_4 := (HB.out.cell (World.block_lt_of_cell? w _ hx117_4)).trans hx117_4
            replace hx117_5 := (HB.out.cell (World.block_lt_of_cell? w _ hx117_5)).trans hx117_5
            replace p117 := eq_true p117
            replace q117 := eq_true q117
            go_wp2
            go_roundg k1
            case measure => have := HK1.out; omega
            case rel => exact ⟨((rd_T37 l2 x12_1).f5), (wrap64 (x12_1 + 1)), (by first | rfl | (simp; done) | (simp [*]; done)), (by first | rfl | (simp; done) | (simp [*]; done)), H', ⟨by have := HK1.out; omega⟩, ⟨by repeat (first | (with_reducible first | exact HB.out | apply below_alloc | apply pw_below_drewN | apply below_drew1) | exact HB.out)⟩⟩
          · rw [if_neg c8] at H
            exact absurd H (by simp)
      · rw [if_neg c6] at H
        have c6b0 : decide (x12_1 < (l2.length : Int)) = false := decide_eq_false c6
        clear c6
        have HC9 := Aside0.mk H
        clear H
        go_upto_region 6 with (fail)
        go_cut [49] (fun v49 wc => ∃ (kq : Nat) (x49_8 : Bool), v49 = .bool x49_8 ∧ Aside0 (lamplighterref22_order.j1 kq a0 a1 l2 a3 a4 x49_8 = some r) ∧ Aside0 (kq ≤ k1) ∧ Aside0 (Below w.heap.size w wc))
        case first =>
          have H := HC9.out
          clear HC9
          by_cases c10 : x11_1 = true
          · subst c10
            have H1 : (lamplighterref22_order.j1 k1 a0 a1 l2 a3 a4 false) = some r := by rw [if_pos rfl] at H; exact H
            clear H
            have H := H1
            clear H1
            have H' := Aside0.mk H
            clear H
            go_wp2
            go_meet
            case rel => exact ⟨_, (false), (by first | rfl | (simp; done) | (simp [*]; done)), H', ⟨by have := HK1.out; first | omega | exact Nat.le_refl _⟩, ⟨by repeat (first | (with_reducible first | exact HB.out | apply below_alloc | apply pw_below_drewN | apply below_drew1) | exact HB.out)⟩⟩
          · replace c10 := Bool.eq_false_iff.mpr c10
            subst c10
            have H1 : (if (a1 == a4) = true then (if a1 = true then (lamplighterref22_order.j1 k1 a0 a1 l2 a3 a4 (a0.toList == a3.toList)) else (lamplighterref22_order.j1 k1 a0 a1 l2 a3 a4 true)) else (lamplighterref22_order.j1 k1 a0 a1 l2 a3 a4 false)) = some r := by rw [if_neg (show ¬ (false = true) by decide)] at H; exact H
            clear H
            have H := H1
            clear H1
            by_cases c11 : (a1 == a4) = true
            · rw [if_pos c11] at H
              have c11b0 : (a1 == a4) = true := c11
              (try (have c11b1 : decide (a1 = a4) = true := by simpa using c11))
              (try (have c11b2 : (a1 == a4) = true := by simpa using c11))
              clear c11
              (first | rw [c11b0] | (simp only [i64_w, i32_w]; rw [c11b0]) | skip)
              by_cases c12 : a1 = true
              · subst c12
                have H1 : (lamplighterref22_order.j1 k1 a0 true l2 a3 a4 (a0.toList == a3.toList)) = some r := by rw [if_pos rfl] at H; exact H
                clear H
                have H := H1
                clear H1
                have H' := Aside0.mk H
                clear H
                go_wp2
                go_meet
                case rel => exact ⟨_, ((a0.toList == a3.toList)), (by first | rfl | (simp; done) | (simp [*]; done)), H', ⟨by have := HK1.out; first | omega | exact Nat.le_refl _⟩, ⟨by repeat (first | (with_reducible first | exact HB.out | apply below_alloc | apply pw_below_drewN | apply below_drew1) | exact HB.out)⟩⟩
              · replace c12 := Bool.eq_false_iff.mpr c12
                subst c12
                have H1 : (lamplighterref22_order.j1 k1 a0 false l2 a3 a4 true) = some r := by rw [if_neg (show ¬ (false = true) by decide)] at H; exact H
                clear H
                have H := H1
                clear H1
                have H' := Aside0.mk H
                clear H
                go_wp2
                go_meet
                case rel => exact ⟨_, (true), (by first | rfl | (simp; done) | (simp [*]; done)), H', ⟨by have := HK1.out; first | omega | exact Nat.le_refl _⟩, ⟨by repeat (first | (with_reducible first | exact HB.out | apply below_alloc | apply pw_below_drewN | apply below_drew1) | exact HB.out)⟩⟩
            · rw [if_neg c11] at H
              have c11b0 : (a1 == a4) = false := by simpa using c11
              (try (have c11b1 : decide (a1 = a4) = false := by simpa using c11))
              (try (have c11b2 : (a1 == a4) = false := by simpa using c11))
              (try (have c11b3 : ¬ (a1 = a4) := by simpa using c11))
              clear c11
              (first | rw [c11b0] | (simp only [i64_w, i32_w]; rw [c11b0]) | skip)
              have H' := Aside0.mk H
              clear H
              go_wp2
              go_meet
              case rel => exact ⟨_, (false), (by first | rfl | (simp; done) | (simp [*]; done)), H', ⟨by have := HK1.out; first | omega | exact Nat.le_refl _⟩, ⟨by repeat (first | (with_reducible first | exact HB.out | apply below_alloc | apply pw_below_drewN | apply below_drew1) | exact HB.out)⟩⟩
        case rest =>
          clear HC9
          try clear c1
          try clear p1
          try clear q1
          try clear hx1
          try clear c2
          try clear p2
          try clear c6
          try clear c6b0
          try clear p6
          try clear c7
          try clear c8
          try clear c8b0
          try clear c10
          try clear c11
          try clear c11b0
          try clear c11b1
          try clear c11b2
          try clear p11
          try clear q11
          try clear hx11
          try clear c12
          try clear hx117_0
          try clear hx117_1
          try clear hx117_2
          try clear hx117_3
          try clear hx117_4
          try clear hx117_5
          try clear p117
          try clear p2
          try clear q117
          obtain ⟨kq, x49_8, rfl, HA, HJ8, HB⟩ := hcut
          cases kq with
          | zero => exact absurd HA.out (by simp [lamplighterref22_order.j1])
          | succ kj8 =>
            have H := HA.out
            clear HA
            simp only [lamplighterref22_order.j1] at H
            by_cases c13 : x49_8 = true
            · subst c13
              have H1 : (some true) = some r := by rw [if_pos rfl] at H; exact H
              clear H
              have H := H1
              clear H1
              obtain rfl := Option.some.inj H
              go_wp2
              go_ret
              exact ⟨by first | rfl | (simp [errW_none, errW_some] <;> rfl) | (simp [*, errW_none, errW_some] <;> rfl), by repeat (first | (with_reducible first | exact HB.out | apply below_alloc | apply pw_below_drewN | apply below_drew1) | exact HB.out)⟩
            · replace c13 := Bool.eq_false_iff.mpr c13
              subst c13
              have H1 : (lamplighterref22_order.l1 kj8 a0 a1 l2 a3 a4 0) = some r := by rw [if_neg (show ¬ (false = true) by decide)] at H; exact H
              clear H
              have H := H1
              clear H1
              have H' := Aside0.mk H
              clear H
              go_wp2
              go_loopg [13] kj8 (fun kq v13 w' => ∃ (x13_3 : Int), v13 = .int .i64 x13_3 ∧ Aside0 (lamplighterref22_order.l1 kq a0 a1 l2 a3 a4 x13_3 = some r) ∧ Aside0 (kq ≤ kj8) ∧ Aside0 (Below w.heap.size w w'))
              case atStart => exact ⟨(0), (by first | rfl | (simp; done) | (simp [*]; done)), H', ⟨Nat.le_refl _⟩, ⟨by repeat (first | (with_reducible first | exact HB.out | apply below_alloc | apply pw_below_drewN | apply below_drew1) | exact HB.out)⟩⟩
              case round =>
                clear H'
                try clear c1
                try clear p1
                try clear q1
                try clear hx1
                try clear c2
                try clear p2
                try clear c6
                try clear c6b0
                try clear p6
                try clear c7
                try clear c8
                try clear c8b0
                try clear c10
                try clear c11
                try clear c11b0
                try clear c11b1
                try clear c11b2
                try clear p11
                try clear q11
                try clear hx11
                try clear c12
                try clear c13
                try clear hx117_0
                try clear hx117_1
                try clear hx117_2
                try clear hx117_3
                try clear hx117_4
                try clear hx117_5
                try clear p1
                try clear p11
                try clear p117
                try clear p2
                try clear p6
                try clear q1
                try clear q11
                try clear q117
                obtain ⟨x13_3, rfl, HA, HK3, HB⟩ := hrel
                cases gk with
                | zero => exact absurd HA.out (by simp [lamplighterref22_order.l1])
                | succ k3 =>
                  have H := HA.out
                  clear HA
                  simp only [lamplighterref22_order.l1] at H
                  by_cases c14 : x13_3 < (l2.length : Int)
                  · rw [if_pos c14] at H
                    have c14b0 : decide (x13_3 < (l2.length : Int)) = true := decide_eq_true c14
                    clear c14
                    by_cases c15 : 0 ≤ x13_3
                    · rw [if_pos c15] at H
                      have c15b0 : decide (0 ≤ x13_3) = true := decide_eq_true c15
                      clear c15
                      replace H := Option.bind_eq_some_iff.mp H
                      obtain ⟨t120, A160, H⟩ := H
                      replace H : ((lamplighterref22_fits.f ((rd_T37 l2 x13_3).f0) ((rd_T37 l2 x13_3).f1) ((rd_T37 l2 x13_3).f2) ((rd_T37 l2 x13_3).f3) ((rd_T37 l2 x13_3).f4) ((rd_T37 l2 x13_3).f5) a0 a1).bind fun t121 => (if t120 = true then (if t121 = true then (if ((rd_T37 l2 x13_3).f2) < 1 then (lamplighterref22_order.j3 k3 a0 a1 l2 a3 a4 x13_3 true ((rd_T37 l2 x13_3).f0) ((rd_T37 l2 x13_3).f1) ((rd_T37 l2 x13_3).f2) ((rd_T37 l2 x13_3).f3) ((rd_T37 l2 x13_3).f4) ((rd_T37 l2 x13_3).f5)) else (lamplighterref22_order.j3 k3 a0 a1 l2 a3 a4 x13_3 (decide (((rd_T37 l2 x13_3).f2) > 3)) ((rd_T37 l2 x13_3).f0) ((rd_T37 l2 x13_3).f1) ((rd_T37 l2 x13_3).f2) ((rd_T37 l2 x13_3).f3) ((rd_T37 l2 x13_3).f4) ((rd_T37 l2 x13_3).f5))) else (lamplighterref22_order.j3 k3 a0 a1 l2 a3 a4 x13_3 true ((rd_T37 l2 x13_3).f0) ((rd_T37 l2 x13_3).f1) ((rd_T37 l2 x13_3).f2) ((rd_T37 l2 x13_3).f3) ((rd_T37 l2 x13_3).f4) ((rd_T37 l2 x13_3).f5))) else (lamplighterref22_order.j3 k3 a0 a1 l2 a3 a4 x13_3 true ((rd_T37 l2 x13_3).f0) ((rd_T37 l2 x13_3).f1) ((rd_T37 l2 x13_3).f2) ((rd_T37 l2 x13_3).f3) ((rd_T37 l2 x13_3).f4) ((rd_T37 l2 x13_3).f5)))) = some r := H
                      have A16 := Aside0.mk A160
                      clear A160
                      replace H := Option.bind_eq_some_iff.mp H
                      obtain ⟨t121, A170, H⟩ := H
                      replace H : (if t120 = true then (if t121 = true then (if ((rd_T37 l2 x13_3).f2) < 1 then (lamplighterref22_order.j3 k3 a0 a1 l2 a3 a4 x13_3 true ((rd_T37 l2 x13_3).f0) ((rd_T37 l2 x13_3).f1) ((rd_T37 l2 x13_3).f2) ((rd_T37 l2 x13_3).f3) ((rd_T37 l2 x13_3).f4) ((rd_T37 l2 x13_3).f5)) else (lamplighterref22_order.j3 k3 a0 a1 l2 a3 a4 x13_3 (decide (((rd_T37 l2 x13_3).f2) > 3)) ((rd_T37 l2 x13_3).f0) ((rd_T37 l2 x13_3).f1) ((rd_T37 l2 x13_3).f2) ((rd_T37 l2 x13_3).f3) ((rd_T37 l2 x13_3).f4) ((rd_T37 l2 x13_3).f5))) else (lamplighterref22_order.j3 k3 a0 a1 l2 a3 a4 x13_3 true ((rd_T37 l2 x13_3).f0) ((rd_T37 l2 x13_3).f1) ((rd_T37 l2 x13_3).f2) ((rd_T37 l2 x13_3).f3) ((rd_T37 l2 x13_3).f4) ((rd_T37 l2 x13_3).f5))) else (lamplighterref22_order.j3 k3 a0 a1 l2 a3 a4 x13_3 true ((rd_T37 l2 x13_3).f0) ((rd_T37 l2 x13_3).f1) ((rd_T37 l2 x13_3).f2) ((rd_T37 l2 x13_3).f3) ((rd_T37 l2 x13_3).f4) ((rd_T37 l2 x13_3).f5))) = some r := H
                      have A17 := Aside0.mk A170
                      clear A170
                      have HC18 := Aside0.mk H
                      clear H
                      have p118 : 0 ≤ (x13_3 : Int) := of_decide_eq_true (by first | (with_reducible assumption) | assumption)
                      have q118 : x13_3 < (l2.length : Int) := of_decide_eq_true (by first | (with_reducible assumption) | assumption)
                      obtain ⟨ad118, e118, hx118_0, hx118_1, hx118_2, hx118_3, hx118_4, hx118_5⟩ := at_T37 HR2.out x13_3 p118 q118
                      cases e118
                      replace hx118_0 := (HB.out.cell (World.block_lt_of_cell? w _ hx118_0)).trans hx118_0
                      replace hx118_1 := (HB.out.cell (World.block_lt_of_cell? w _ hx118_1)).trans hx118_1
                      replace hx118_2 := (HB.out.cell (World.block_lt_of_cell? w _ hx118_2)).trans hx118_2
                      replace hx118_3 := (HB.out.cell (World.block_lt_of_cell? w _ hx118_3)).trans hx118_3
                      replace hx118_4 := (HB.out.cell (World.block_lt_of_cell? w _ hx118_4)).trans hx118_4
                      replace hx118_5 := (HB.out.cell (World.block_lt_of_cell? w _ hx118_5)).trans hx118_5
                      replace p118 := eq_true p118
                      replace q118 := eq_true q118
                      go_upto_region 14 with (first | ((with_reducible refine gate_dst (N := 14) rfl ?_); refine box_event ?hg (N := 14) ?hd (cs := #[.int .i64 0, .int .i64 0, .int .i64 0, .string (⟨#[]⟩ : ByteArray), .bool false, .bool false]) (t := 37) ?hr ?_; (case hd => rfl); (case hg => rfl); (case hr => first | (go_simp; done) | (go_simp; rfl)); intro gb119 hg w19 hbox hb; have n0_ := Aside0.mk (below_step (by repeat (first | (with_reducible first | exact HB.out | apply below_alloc | apply pw_below_drewN | apply below_drew1) | exact HB.out)) hb); have n1_ := Aside0.mk (hbox); have n2_ := Aside0.mk ((by rw [hg]; exact (below_size (by repeat (first | (with_reducible first | exact HB.out | apply below_alloc | apply pw_below_drewN | apply below_drew1) | exact HB.out))) : w.heap.size ≤ gb119)); have n3_ := Aside0.mk ((by rw [hg]; exact (below_size (by repeat (first | (with_reducible first | exact HB.out | apply below_alloc | apply pw_below_drewN | apply below_drew1) | exact HB.out))) : w.heap.size ≤ gb119)); clear HB; have HB := n0_; have BK119 := n1_; have GW119 := n2_; have GE119 := n3_; clear n0_ n1_ n2_ n3_; clear hb hbox hg; have hcz20_0 : w19.cell? ⟨gb119, 0, none⟩ = some (.int .i64 0) := (blk_cell BK119.out 0).trans rfl; have hcz20_1 : w19.cell? ⟨gb119, 1, none⟩ = some (.int .i64 0) := (blk_cell BK119.out 1).trans rfl; have hcz20_2 : w19.cell? ⟨gb119, 2, none⟩ = some (.int .i64 0) := (blk_cell BK119.out 2).trans rfl; have hcz20_3 : w19.cell? ⟨gb119, 3, none⟩ = some (.string (⟨#[]⟩ : ByteArray)) := (blk_cell BK119.out 3).trans rfl; have hcz20_4 : w19.cell? ⟨gb119, 4, none⟩ = some (.bool false) := (blk_cell BK119.out 4).trans rfl; have hcz20_5 : w19.cell? ⟨gb119, 5, none⟩ = some (.bool false) := (blk_cell BK119.out 5).trans rfl; have hfz20_0 := blk_frozen BK119.out 0; have hfz20_1 := blk_frozen BK119.out 1; have hfz20_2 := blk_frozen BK119.out 2; have hfz20_3 := blk_frozen BK119.out 3; have hfz20_4 := blk_frozen BK119.out 4; have hfz20_5 := blk_frozen BK119.out 5) | ((with_reducible refine gate_callee (f := 23) rfl ?_); refine goesL_ (some 62) rfl rfl Try.func23 (by kernel_rfl) rfl #[.slice (some ad118) l2.length c2, .int .i64 x13_3] rfl (by (try simp only [List.map_toArray, List.map_cons, List.map_nil]); first | done | rfl | (simp only [List.length_drop, List.length_take]; rfl)) ?_; (with_reducible refine (lamplighterref22_first.calls k3 _ _ l2 x13_3 t120 _ ?side1 ?side2 A16.out).mono ?_); (case side1 => exact Kd.C_below HR2.out (by repeat (first | (with_reducible first | exact HB.out | apply below_alloc | apply pw_below_drewN | apply below_drew1 | refine below_set ?_ GE119.out) | exact HB.out))); (case side2 => exact HC2.out); rintro e w' ⟨rfl, ⟨nd, rfl⟩⟩; refine ⟨_, rfl, ?_⟩) | ((with_reducible refine gate_callee (f := 24) rfl ?_); refine goesL_ (some 66) rfl rfl Try.func24 (by kernel_rfl) rfl #[.agg #[.int .i64 ((rd_T37 l2 x13_3).f0), .int .i64 ((rd_T37 l2 x13_3).f1), .int .i64 ((rd_T37 l2 x13_3).f2), .string ((rd_T37 l2 x13_3).f3), .bool ((rd_T37 l2 x13_3).f4), .bool ((rd_T37 l2 x13_3).f5)], .string a0, .bool a1] rfl (by (try simp only [List.map_toArray, List.map_cons, List.map_nil]); first | done | rfl | (simp only [List.length_drop, List.length_take]; rfl)) ?_; (with_reducible refine (lamplighterref22_fits.calls ((rd_T37 l2 x13_3).f0) ((rd_T37 l2 x13_3).f1) ((rd_T37 l2 x13_3).f2) ((rd_T37 l2 x13_3).f3) ((rd_T37 l2 x13_3).f4) ((rd_T37 l2 x13_3).f5) a0 a1 t121 _ A17.out).mono ?_); rintro e w21 ⟨rfl, hb⟩; refine ⟨_, rfl, ?_⟩; have n0_ := Aside0.mk (blk_below (g := gb119) (o := .cells #[.int .i64 ((rd_T37 l2 x13_3).f0), .int .i64 ((rd_T37 l2 x13_3).f1), .int .i64 ((rd_T37 l2 x13_3).f2), .string ((rd_T37 l2 x13_3).f3), .bool ((rd_T37 l2 x13_3).f4), .bool ((rd_T37 l2 x13_3).f5)] 37 (0, 0)) (by (with_reducible repeat (first | refine blk_drewN ?_ _ | refine blk_drew ?_ | refine blk_alloc ?_ _)); refine blk_put (cs := #[.int .i64 ((rd_T37 l2 x13_3).f0), .int .i64 ((rd_T37 l2 x13_3).f1), .int .i64 ((rd_T37 l2 x13_3).f2), .string ((rd_T37 l2 x13_3).f3), .bool ((rd_T37 l2 x13_3).f4), .bool false]) ?_ 5 _ rfl; (with_reducible repeat (first | refine blk_drewN ?_ _ | refine blk_drew ?_ | refine blk_alloc ?_ _)); refine blk_put (cs := #[.int .i64 ((rd_T37 l2 x13_3).f0), .int .i64 ((rd_T37 l2 x13_3).f1), .int .i64 ((rd_T37 l2 x13_3).f2), .string ((rd_T37 l2 x13_3).f3), .bool false, .bool false]) ?_ 4 _ rfl; (with_reducible repeat (first | refine blk_drewN ?_ _ | refine blk_drew ?_ | refine blk_alloc ?_ _)); refine blk_put (cs := #[.int .i64 ((rd_T37 l2 x13_3).f0), .int .i64 ((rd_T37 l2 x13_3).f1), .int .i64 ((rd_T37 l2 x13_3).f2), .string (⟨#[]⟩ : ByteArray), .bool false, .bool false]) ?_ 3 _ rfl; (with_reducible repeat (first | refine blk_drewN ?_ _ | refine blk_drew ?_ | refine blk_alloc ?_ _)); refine blk_put (cs := #[.int .i64 ((rd_T37 l2 x13_3).f0), .int .i64 ((rd_T37 l2 x13_3).f1), .int .i64 0, .string (⟨#[]⟩ : ByteArray), .bool false, .bool false]) ?_ 2 _ rfl; (with_reducible repeat (first | refine blk_drewN ?_ _ | refine blk_drew ?_ | refine blk_alloc ?_ _)); refine blk_put (cs := #[.int .i64 ((rd_T37 l2 x13_3).f0), .int .i64 0, .int .i64 0, .string (⟨#[]⟩ : ByteArray), .bool false, .bool false]) ?_ 1 _ rfl; (with_reducible repeat (first | refine blk_drewN ?_ _ | refine blk_drew ?_ | refine blk_alloc ?_ _)); refine blk_put (cs := #[.int .i64 0, .int .i64 0, .int .i64 0, .string (⟨#[]⟩ : ByteArray), .bool false, .bool false]) ?_ 0 _ rfl; (with_reducible repeat (first | refine blk_drewN ?_ _ | refine blk_drew ?_ | refine blk_alloc ?_ _)); exact BK119.out) hb); have n1_ := Aside0.mk (below_step (by repeat (first | (with_reducible first | exact HB.out | apply below_alloc | apply pw_below_drewN | apply below_drew1 | refine below_set ?_ GE119.out) | exact HB.out)) hb); clear BK119; clear HB; have BK119 := n0_; have HB := n1_; clear n0_ n1_; (try clear hb); (try clear hb2); (try clear hk); (try clear hi)))
                      (try simp only [Act.put, List.setIfInBounds_toArray, List.set_cons_zero, List.set_cons_succ])
                      go_cut [82] (fun v82 wc => ∃ (kq : Nat) (x82_17 : Bool), v82 = .bool x82_17 ∧ Aside0 (lamplighterref22_order.j3 kq a0 a1 l2 a3 a4 x13_3 x82_17 ((rd_T37 l2 x13_3).f0) ((rd_T37 l2 x13_3).f1) ((rd_T37 l2 x13_3).f2) ((rd_T37 l2 x13_3).f3) ((rd_T37 l2 x13_3).f4) ((rd_T37 l2 x13_3).f5) = some r) ∧ Aside0 (kq ≤ k3) ∧ Aside0 (wc.heap[gb119]? = some (.cells #[.int .i64 ((rd_T37 l2 x13_3).f0), .int .i64 ((rd_T37 l2 x13_3).f1), .int .i64 ((rd_T37 l2 x13_3).f2), .string ((rd_T37 l2 x13_3).f3), .bool ((rd_T37 l2 x13_3).f4), .bool ((rd_T37 l2 x13_3).f5)] 37 (0, 0))) ∧ Aside0 (Below w.heap.size w wc))
                      case first =>
                        have H := HC18.out
                        clear HC18
                        by_cases c22 : t120 = true
                        · subst c22
                          have H1 : (if t121 = true then (if ((rd_T37 l2 x13_3).f2) < 1 then (lamplighterref22_order.j3 k3 a0 a1 l2 a3 a4 x13_3 true ((rd_T37 l2 x13_3).f0) ((rd_T37 l2 x13_3).f1) ((rd_T37 l2 x13_3).f2) ((rd_T37 l2 x13_3).f3) ((rd_T37 l2 x13_3).f4) ((rd_T37 l2 x13_3).f5)) else (lamplighterref22_order.j3 k3 a0 a1 l2 a3 a4 x13_3 (decide (((rd_T37 l2 x13_3).f2) > 3)) ((rd_T37 l2 x13_3).f0) ((rd_T37 l2 x13_3).f1) ((rd_T37 l2 x13_3).f2) ((rd_T37 l2 x13_3).f3) ((rd_T37 l2 x13_3).f4) ((rd_T37 l2 x13_3).f5))) else (lamplighterref22_order.j3 k3 a0 a1 l2 a3 a4 x13_3 true ((rd_T37 l2 x13_3).f0) ((rd_T37 l2 x13_3).f1) ((rd_T37 l2 x13_3).f2) ((rd_T37 l2 x13_3).f3) ((rd_T37 l2 x13_3).f4) ((rd_T37 l2 x13_3).f5))) = some r := by rw [if_pos rfl] at H; exact H
                          clear H
                          have H := H1
                          clear H1
                          by_cases c23 : t121 = true
                          · subst c23
                            have H1 : (if ((rd_T37 l2 x13_3).f2) < 1 then (lamplighterref22_order.j3 k3 a0 a1 l2 a3 a4 x13_3 true ((rd_T37 l2 x13_3).f0) ((rd_T37 l2 x13_3).f1) ((rd_T37 l2 x13_3).f2) ((rd_T37 l2 x13_3).f3) ((rd_T37 l2 x13_3).f4) ((rd_T37 l2 x13_3).f5)) else (lamplighterref22_order.j3 k3 a0 a1 l2 a3 a4 x13_3 (decide (((rd_T37 l2 x13_3).f2) > 3)) ((rd_T37 l2 x13_3).f0) ((rd_T37 l2 x13_3).f1) ((rd_T37 l2 x13_3).f2) ((rd_T37 l2 x13_3).f3) ((rd_T37 l2 x13_3).f4) ((rd_T37 l2 x13_3).f5))) = some r := by rw [if_pos rfl] at H; exact H
                            clear H
                            have H := H1
                            clear H1
                            by_cases c24 : ((rd_T37 l2 x13_3).f2) < 1
                            · rw [if_pos c24] at H
                              have c24b0 : decide (((rd_T37 l2 x13_3).f2) < 1) = true := decide_eq_true c24
                              clear c24
                              (first | rw [c24b0] | (simp only [i64_w, i32_w]; rw [c24b0]) | skip)
                              have H' := Aside0.mk H
                              clear H
                              have hcz25_0 : w21.cell? ⟨gb119, 0, none⟩ = some (.int .i64 ((rd_T37 l2 x13_3).f0)) := (blk_cell BK119.out 0).trans rfl
                              have hcz25_1 : w21.cell? ⟨gb119, 1, none⟩ = some (.int .i64 ((rd_T37 l2 x13_3).f1)) := (blk_cell BK119.out 1).trans rfl
                              have hcz25_2 : w21.cell? ⟨gb119, 2, none⟩ = some (.int .i64 ((rd_T37 l2 x13_3).f2)) := (blk_cell BK119.out 2).trans rfl
                              have hcz25_3 : w21.cell? ⟨gb119, 3, none⟩ = some (.string ((rd_T37 l2 x13_3).f3)) := (blk_cell BK119.out 3).trans rfl
                              have hcz25_4 : w21.cell? ⟨gb119, 4, none⟩ = some (.bool ((rd_T37 l2 x13_3).f4)) := (blk_cell BK119.out 4).trans rfl
                              have hcz25_5 : w21.cell? ⟨gb119, 5, none⟩ = some (.bool ((rd_T37 l2 x13_3).f5)) := (blk_cell BK119.out 5).trans rfl
                              have hfz25_0 := blk_frozen BK119.out 0
                              have hfz25_1 := blk_frozen BK119.out 1
                              have hfz25_2 := blk_frozen BK119.out 2
                              have hfz25_3 := blk_frozen BK119.out 3
                              have hfz25_4 := blk_frozen BK119.out 4
                              have hfz25_5 := blk_frozen BK119.out 5
                              go_wp2
                              go_meet
                              case rel => exact ⟨_, (true), (by first | rfl | (simp; done) | (simp [*]; done)), H', ⟨by have := HK1.out; have := HJ8.out; have := HK3.out; first | omega | exact Nat.le_refl _⟩, ⟨by (with_reducible repeat (first | refine blk_drewN ?_ _ | refine blk_drew ?_ | refine blk_alloc ?_ _)); exact BK119.out⟩, ⟨by repeat (first | (with_reducible first | exact HB.out | apply below_alloc | apply pw_below_drewN | apply below_drew1 | refine below_set ?_ GE119.out) | exact HB.out)⟩⟩
                            · rw [if_neg c24] at H
                              have c24b0 : decide (((rd_T37 l2 x13_3).f2) < 1) = false := decide_eq_false c24
                              clear c24
                              (first | rw [c24b0] | (simp only [i64_w, i32_w]; rw [c24b0]) | skip)
                              have H' := Aside0.mk H
                              clear H
                              have hcz26_0 : w21.cell? ⟨gb119, 0, none⟩ = some (.int .i64 ((rd_T37 l2 x13_3).f0)) := (blk_cell BK119.out 0).trans rfl
                              have hcz26_1 : w21.cell? ⟨gb119, 1, none⟩ = some (.int .i64 ((rd_T37 l2 x13_3).f1)) := (blk_cell BK119.out 1).trans rfl
                              have hcz26_2 : w21.cell? ⟨gb119, 2, none⟩ = some (.int .i64 ((rd_T37 l2 x13_3).f2)) := (blk_cell BK119.out 2).trans rfl
                              have hcz26_3 : w21.cell? ⟨gb119, 3, none⟩ = some (.string ((rd_T37 l2 x13_3).f3)) := (blk_cell BK119.out 3).trans rfl
                              have hcz26_4 : w21.cell? ⟨gb119, 4, none⟩ = some (.bool ((rd_T37 l2 x13_3).f4)) := (blk_cell BK119.out 4).trans rfl
                              have hcz26_5 : w21.cell? ⟨gb119, 5, none⟩ = some (.bool ((rd_T37 l2 x13_3).f5)) := (blk_cell BK119.out 5).trans rfl
                              have hfz26_0 := blk_frozen BK119.out 0
                              have hfz26_1 := blk_frozen BK119.out 1
                              have hfz26_2 := blk_frozen BK119.out 2
                              have hfz26_3 := blk_frozen BK119.out 3
                              have hfz26_4 := blk_frozen BK119.out 4
                              have hfz26_5 := blk_frozen BK119.out 5
                              go_wp2
                              go_meet
                              case rel => exact ⟨_, (decide (((rd_T37 l2 x13_3).f2) > 3)), (by first | rfl | (simp; done) | (simp [*]; done)), H', ⟨by have := HK1.out; have := HJ8.out; have := HK3.out; first | omega | exact Nat.le_refl _⟩, ⟨by (with_reducible repeat (first | refine blk_drewN ?_ _ | refine blk_drew ?_ | refine blk_alloc ?_ _)); exact BK119.out⟩, ⟨by repeat (first | (with_reducible first | exact HB.out | apply below_alloc | apply pw_below_drewN | apply below_drew1 | refine below_set ?_ GE119.out) | exact HB.out)⟩⟩
                          · replace c23 := Bool.eq_false_iff.mpr c23
                            subst c23
                            have H1 : (lamplighterref22_order.j3 k3 a0 a1 l2 a3 a4 x13_3 true ((rd_T37 l2 x13_3).f0) ((rd_T37 l2 x13_3).f1) ((rd_T37 l2 x13_3).f2) ((rd_T37 l2 x13_3).f3) ((rd_T37 l2 x13_3).f4) ((rd_T37 l2 x13_3).f5)) = some r := by rw [if_neg (show ¬ (false = true) by decide)] at H; exact H
                            clear H
                            have H := H1
                            clear H1
                            have H' := Aside0.mk H
                            clear H
                            go_wp2
                            go_meet
                            case rel => exact ⟨_, (true), (by first | rfl | (simp; done) | (simp [*]; done)), H', ⟨by have := HK1.out; have := HJ8.out; have := HK3.out; first | omega | exact Nat.le_refl _⟩, ⟨by (with_reducible repeat (first | refine blk_drewN ?_ _ | refine blk_drew ?_ | refine blk_alloc ?_ _)); exact BK119.out⟩, ⟨by repeat (first | (with_reducible first | exact HB.out | apply below_alloc | apply pw_below_drewN | apply below_drew1 | refine below_set ?_ GE119.out) | exact HB.out)⟩⟩
                        · replace c22 := Bool.eq_false_iff.mpr c22
                          subst c22
                          have H1 : (lamplighterref22_order.j3 k3 a0 a1 l2 a3 a4 x13_3 true ((rd_T37 l2 x13_3).f0) ((rd_T37 l2 x13_3).f1) ((rd_T37 l2 x13_3).f2) ((rd_T37 l2 x13_3).f3) ((rd_T37 l2 x13_3).f4) ((rd_T37 l2 x13_3).f5)) = some r := by rw [if_neg (show ¬ (false = true) by decide)] at H; exact H
                          clear H
                          have H := H1
                          clear H1
                          have H' := Aside0.mk H
                          clear H
                          go_wp2
                          go_meet
                          case rel => exact ⟨_, (true), (by first | rfl | (simp; done) | (simp [*]; done)), H', ⟨by have := HK1.out; have := HJ8.out; have := HK3.out; first | omega | exact Nat.le_refl _⟩, ⟨by (with_reducible repeat (first | refine blk_drewN ?_ _ | refine blk_drew ?_ | refine blk_alloc ?_ _)); exact BK119.out⟩, ⟨by repeat (first | (with_reducible first | exact HB.out | apply below_alloc | apply pw_below_drewN | apply below_drew1 | refine below_set ?_ GE119.out) | exact HB.out)⟩⟩
                      case rest =>
                        clear HC18
                        try clear c1
                        try clear p1
                        try clear q1
                        try clear hx1
                        try clear c2
                        try clear p2
                        try clear c6
                        try clear c6b0
                        try clear p6
                        try clear c7
                        try clear c8
                        try clear c8b0
                        try clear c10
                        try clear c11
                        try clear c11b0
                        try clear c11b1
                        try clear c11b2
                        try clear p11
                        try clear q11
                        try clear hx11
                        try clear c12
                        try clear c13
                        try clear c14
                        try clear c14b0
                        try clear c15
                        try clear c15b0
                        try clear c20
                        try clear c22
                        try clear c23
                        try clear c24
                        try clear c24b0
                        try clear hcz20_0
                        try clear hcz20_1
                        try clear hcz20_2
                        try clear hcz20_3
                        try clear hcz20_4
                        try clear hcz20_5
                        try clear hcz25_0
                        try clear hcz25_1
                        try clear hcz25_2
                        try clear hcz25_3
                        try clear hcz25_4
                        try clear hcz25_5
                        try clear hcz26_0
                        try clear hcz26_1
                        try clear hcz26_2
                        try clear hcz26_3
                        try clear hcz26_4
                        try clear hcz26_5
                        try clear hfz20_0
                        try clear hfz20_1
                        try clear hfz20_2
                        try clear hfz20_3
                        try clear hfz20_4
                        try clear hfz20_5
                        try clear hfz25_0
                        try clear hfz25_1
                        try clear hfz25_2
                        try clear hfz25_3
                        try clear hfz25_4
                        try clear hfz25_5
                        try clear hfz26_0
                        try clear hfz26_1
                        try clear hfz26_2
                        try clear hfz26_3
                        try clear hfz26_4
                        try clear hfz26_5
                        try clear hx117_0
                        try clear hx117_1
                        try clear hx117_2
                        try clear hx117_3
                        try clear hx117_4
                        try clear hx117_5
                        try clear hx118_0
                        try clear hx118_1
                        try clear hx118_2
                        try clear hx118_3
                        try clear hx118_4
                        try clear hx118_5
                        try clear p1
                        try clear p11
                        try clear p117
                        try clear p118
                        try clear p2
                        try clear p6
                        try clear q1
                        try clear q11
                        try clear q117
                        try clear q118
                        obtain ⟨kq, x82_17, rfl, HA, HJ17, BK119, HB⟩ := hcut
                        cases kq with
                        | zero => exact absurd HA.out (by simp [lamplighterref22_order.j3])
                        | succ kj17 =>
                          have H := HA.out
                          clear HA
                          simp only [lamplighterref22_order.j3] at H
                          by_cases c27 : x82_17 = true
                          · subst c27
                            have H1 : (lamplighterref22_order.l1 kj17 a0 a1 l2 a3 a4 (wrap64 (x13_3 + 1))) = some r := by rw [if_pos rfl] at H; exact H
                            clear H
                            have H := H1
                            clear H1
                            have H' := Aside0.mk H
                            clear H
                            go_wp2
                            go_roundg kj17
                            case measure => have := HK1.out; have := HJ8.out; have := HK3.out; have := HJ17.out; omega
                            case rel => exact ⟨(wrap64 (x13_3 + 1)), (by first | rfl | (simp; done) | (simp [*]; done)), H', ⟨by have := HK1.out; have := HJ8.out; have := HK3.out; have := HJ17.out; omega⟩, ⟨by repeat (first | (with_reducible first | exact HB.out | apply below_alloc | apply pw_below_drewN | apply below_drew1 | refine below_set ?_ GE119.out) | exact HB.out)⟩⟩
                          · replace c27 := Bool.eq_false_iff.mpr c27
                            subst c27
                            have H1 : (if ((rd_T37 l2 x13_3).f2) = 1 then (lamplighterref22_order.j4 kj17 a0 a1 l2 a3 a4 x13_3 ((rd_T37 l2 x13_3).f3) true ((rd_T37 l2 x13_3).f0) ((rd_T37 l2 x13_3).f1) ((rd_T37 l2 x13_3).f2) ((rd_T37 l2 x13_3).f3) ((rd_T37 l2 x13_3).f4) ((rd_T37 l2 x13_3).f5)) else (lamplighterref22_order.j4 kj17 a0 a1 l2 a3 a4 x13_3 a0 a1 ((rd_T37 l2 x13_3).f0) ((rd_T37 l2 x13_3).f1) ((rd_T37 l2 x13_3).f2) ((rd_T37 l2 x13_3).f3) ((rd_T37 l2 x13_3).f4) ((rd_T37 l2 x13_3).f5))) = some r := by rw [if_neg (show ¬ (false = true) by decide)] at H; exact H
                            clear H
                            have H := H1
                            clear H1
                            have HC28 := Aside0.mk H
                            clear H
                            have hcz29_0 : wc.cell? ⟨gb119, 0, none⟩ = some (.int .i64 ((rd_T37 l2 x13_3).f0)) := (blk_cell BK119.out 0).trans rfl
                            have hcz29_1 : wc.cell? ⟨gb119, 1, none⟩ = some (.int .i64 ((rd_T37 l2 x13_3).f1)) := (blk_cell BK119.out 1).trans rfl
                            have hcz29_2 : wc.cell? ⟨gb119, 2, none⟩ = some (.int .i64 ((rd_T37 l2 x13_3).f2)) := (blk_cell BK119.out 2).trans rfl
                            have hcz29_3 : wc.cell? ⟨gb119, 3, none⟩ = some (.string ((rd_T37 l2 x13_3).f3)) := (blk_cell BK119.out 3).trans rfl
                            have hcz29_4 : wc.cell? ⟨gb119, 4, none⟩ = some (.bool ((rd_T37 l2 x13_3).f4)) := (blk_cell BK119.out 4).trans rfl
                            have hcz29_5 : wc.cell? ⟨gb119, 5, none⟩ = some (.bool ((rd_T37 l2 x13_3).f5)) := (blk_cell BK119.out 5).trans rfl
                            have hfz29_0 := blk_frozen BK119.out 0
                            have hfz29_1 := blk_frozen BK119.out 1
                            have hfz29_2 := blk_frozen BK119.out 2
                            have hfz29_3 := blk_frozen BK119.out 3
                            have hfz29_4 := blk_frozen BK119.out 4
                            have hfz29_5 := blk_frozen BK119.out 5
                            go_upto_if 87 with (fail)
                            go_cut [17, 18] (fun v17 v18 wc => ∃ (kq : Nat) (x17_27 : ByteArray) (x18_27 : Bool), v17 = .string x17_27 ∧ v18 = .bool x18_27 ∧ Aside0 (lamplighterref22_order.j4 kq a0 a1 l2 a3 a4 x13_3 x17_27 x18_27 ((rd_T37 l2 x13_3).f0) ((rd_T37 l2 x13_3).f1) ((rd_T37 l2 x13_3).f2) ((rd_T37 l2 x13_3).f3) ((rd_T37 l2 x13_3).f4) ((rd_T37 l2 x13_3).f5) = some r) ∧ Aside0 (kq ≤ kj17) ∧ Aside0 (wc.heap[gb119]? = some (.cells #[.int .i64 ((rd_T37 l2 x13_3).f0), .int .i64 ((rd_T37 l2 x13_3).f1), .int .i64 ((rd_T37 l2 x13_3).f2), .string ((rd_T37 l2 x13_3).f3), .bool ((rd_T37 l2 x13_3).f4), .bool ((rd_T37 l2 x13_3).f5)] 37 (0, 0))) ∧ Aside0 (Below w.heap.size w wc))
                            case first =>
                              have H := HC28.out
                              clear HC28
                              by_cases c30 : ((rd_T37 l2 x13_3).f2) = 1
                              · rw [if_pos c30] at H
                                have c30b0 : (((rd_T37 l2 x13_3).f2) == 1) = true := beq_iff_eq.mpr c30
                                have c30b1 : (((rd_T37 l2 x13_3).f2) != 1) = false := bne_eq_false_iff_eq.mpr c30
                                clear c30
                                (first | rw [c30b0] | (simp only [i64_w, i32_w]; rw [c30b0]) | skip)
                                have H' := Aside0.mk H
                                clear H
                                have hcz31_0 : wc.cell? ⟨gb119, 0, none⟩ = some (.int .i64 ((rd_T37 l2 x13_3).f0)) := (blk_cell BK119.out 0).trans rfl
                                have hcz31_1 : wc.cell? ⟨gb119, 1, none⟩ = some (.int .i64 ((rd_T37 l2 x13_3).f1)) := (blk_cell BK119.out 1).trans rfl
                                have hcz31_2 : wc.cell? ⟨gb119, 2, none⟩ = some (.int .i64 ((rd_T37 l2 x13_3).f2)) := (blk_cell BK119.out 2).trans rfl
                                have hcz31_3 : wc.cell? ⟨gb119, 3, none⟩ = some (.string ((rd_T37 l2 x13_3).f3)) := (blk_cell BK119.out 3).trans rfl
                                have hcz31_4 : wc.cell? ⟨gb119, 4, none⟩ = some (.bool ((rd_T37 l2 x13_3).f4)) := (blk_cell BK119.out 4).trans rfl
                                have hcz31_5 : wc.cell? ⟨gb119, 5, none⟩ = some (.bool ((rd_T37 l2 x13_3).f5)) := (blk_cell BK119.out 5).trans rfl
                                have hfz31_0 := blk_frozen BK119.out 0
                                have hfz31_1 := blk_frozen BK119.out 1
                                have hfz31_2 := blk_frozen BK119.out 2
                                have hfz31_3 := blk_frozen BK119.out 3
                                have hfz31_4 := blk_frozen BK119.out 4
                                have hfz31_5 := blk_frozen BK119.out 5
                                go_wp2
                                go_meet
                                case rel => exact ⟨_, (((rd_T37 l2 x13_3).f3)), (true), (by first | rfl | (simp; done) | (simp [*]; done)), (by first | rfl | (simp; done) | (simp [*]; done)), H', ⟨by have := HK1.out; have := HJ8.out; have := HK3.out; have := HJ17.out; first | omega | exact Nat.le_refl _⟩, ⟨by (with_reducible repeat (first | refine blk_drewN ?_ _ | refine blk_drew ?_ | refine blk_alloc ?_ _)); exact BK119.out⟩, ⟨by repeat (first | (with_reducible first | exact HB.out | apply below_alloc | apply pw_below_drewN | apply below_drew1 | refine below_set ?_ GE119.out) | exact HB.out)⟩⟩
                              · rw [if_neg c30] at H
                                have c30b0 : (((rd_T37 l2 x13_3).f2) == 1) = false := beq_eq_false_iff_ne.mpr c30
                                have c30b1 : (((rd_T37 l2 x13_3).f2) != 1) = true := bne_iff_ne.mpr c30
                                (first | rw [c30b0] | (simp only [i64_w, i32_w]; rw [c30b0]) | skip)
                                have H' := Aside0.mk H
                                clear H
                                go_wp2
                                go_meet
                                case rel => exact ⟨_, (a0), (a1), (by first | rfl | (simp; done) | (simp [*]; done)), (by first | rfl | (simp; done) | (simp [*]; done)), H', ⟨by have := HK1.out; have := HJ8.out; have := HK3.out; have := HJ17.out; first | omega | exact Nat.le_refl _⟩, ⟨by (with_reducible repeat (first | refine blk_drewN ?_ _ | refine blk_drew ?_ | refine blk_alloc ?_ _)); exact BK119.out⟩, ⟨by repeat (first | (with_reducible first | exact HB.out | apply below_alloc | apply pw_below_drewN | apply below_drew1 | refine below_set ?_ GE119.out) | exact HB.out)⟩⟩
                            case rest =>
                              clear HC28
                              try clear c1
                              try clear p1
                              try clear q1
                              try clear hx1
                              try clear c2
                              try clear p2
                              try clear c3
                              try clear c6
                              try clear c6b0
                              try clear p6
                              try clear c7
                              try clear c8
                              try clear c8b0
                              try clear c10
                              try clear c11
                              try clear c11b0
                              try clear c11b1
                              try clear c11b2
                              try clear p11
                              try clear q11
                              try clear hx11
                              try clear c12
                              try clear c13
                              try clear c14
                              try clear c14b0
                              try clear c15
                              try clear c15b0
                              try clear c20
                              try clear c22
                              try clear c23
                              try clear c24
                              try clear c24b0
                              try clear c27
                              try clear c30
                              try clear c30b0
                              try clear c30b1
                              try clear hcz20_0
                              try clear hcz20_1
                              try clear hcz20_2
                              try clear hcz20_3
                              try clear hcz20_4
                              try clear hcz20_5
                              try clear hcz25_0
                              try clear hcz25_1
                              try clear hcz25_2
                              try clear hcz25_3
                              try clear hcz25_4
                              try clear hcz25_5
                              try clear hcz26_0
                              try clear hcz26_1
                              try clear hcz26_2
                              try clear hcz26_3
                              try clear hcz26_4
                              try clear hcz26_5
                              try clear hcz29_0
                              try clear hcz29_1
                              try clear hcz29_2
                              try clear hcz29_3
                              try clear hcz29_4
                              try clear hcz29_5
                              try clear hcz31_0
                              try clear hcz31_1
                              try clear hcz31_2
                              try clear hcz31_3
                              try clear hcz31_4
                              try clear hcz31_5
                              try clear hfz20_0
                              try clear hfz20_1
                              try clear hfz20_2
                              try clear hfz20_3
                              try clear hfz20_4
                              try clear hfz20_5
                              try clear hfz25_0
                              try clear hfz25_1
                              try clear hfz25_2
                              try clear hfz25_3
                              try clear hfz25_4
                              try clear hfz25_5
                              try clear hfz26_0
                              try clear hfz26_1
                              try clear hfz26_2
                              try clear hfz26_3
                              try clear hfz26_4
                              try clear hfz26_5
                              try clear hfz29_0
                              try clear hfz29_1
                              try clear hfz29_2
                              try clear hfz29_3
                              try clear hfz29_4
                              try clear hfz29_5
                              try clear hfz31_0
                              try clear hfz31_1
                              try clear hfz31_2
                              try clear hfz31_3
                              try clear hfz31_4
                              try clear hfz31_5
                              try clear hx117_0
                              try clear hx117_1
                              try clear hx117_2
                              try clear hx117_3
                              try clear hx117_4
                              try clear hx117_5
                              try clear hx118_0
                              try clear hx118_1
                              try clear hx118_2
                              try clear hx118_3
                              try clear hx118_4
                              try clear hx118_5
                              try clear p1
                              try clear p11
                              try clear p117
                              try clear p118
                              try clear p2
                              try clear p6
                              try clear q1
                              try clear q11
                              try clear q117
                              try clear q118
                              obtain ⟨kq, x17_27, x18_27, rfl, rfl, HA, HJ27, BK119, HB⟩ := hcut
                              cases kq with
                              | zero => exact absurd HA.out (by simp [lamplighterref22_order.j4])
                              | succ kj27 =>
                                have H := HA.out
                                clear HA
                                simp only [lamplighterref22_order.j4] at H
                                have HC32 := Aside0.mk H
                                clear H
                                have hcz33_0 : wc.cell? ⟨gb119, 0, none⟩ = some (.int .i64 ((rd_T37 l2 x13_3).f0)) := (blk_cell BK119.out 0).trans rfl
                                have hcz33_1 : wc.cell? ⟨gb119, 1, none⟩ = some (.int .i64 ((rd_T37 l2 x13_3).f1)) := (blk_cell BK119.out 1).trans rfl
                                have hcz33_2 : wc.cell? ⟨gb119, 2, none⟩ = some (.int .i64 ((rd_T37 l2 x13_3).f2)) := (blk_cell BK119.out 2).trans rfl
                                have hcz33_3 : wc.cell? ⟨gb119, 3, none⟩ = some (.string ((rd_T37 l2 x13_3).f3)) := (blk_cell BK119.out 3).trans rfl
                                have hcz33_4 : wc.cell? ⟨gb119, 4, none⟩ = some (.bool ((rd_T37 l2 x13_3).f4)) := (blk_cell BK119.out 4).trans rfl
                                have hcz33_5 : wc.cell? ⟨gb119, 5, none⟩ = some (.bool ((rd_T37 l2 x13_3).f5)) := (blk_cell BK119.out 5).trans rfl
                                have hfz33_0 := blk_frozen BK119.out 0
                                have hfz33_1 := blk_frozen BK119.out 1
                                have hfz33_2 := blk_frozen BK119.out 2
                                have hfz33_3 := blk_frozen BK119.out 3
                                have hfz33_4 := blk_frozen BK119.out 4
                                have hfz33_5 := blk_frozen BK119.out 5
                                go_upto_if 92 with (fail)
                                go_cut [17, 18] (fun v17 v18 wc => ∃ (kq : Nat) (x17_31 : ByteArray) (x18_31 : Bool), v17 = .string x17_31 ∧ v18 = .bool x18_31 ∧ Aside0 (lamplighterref22_order.j5 kq a0 a1 l2 a3 a4 x13_3 x17_31 x18_31 = some r) ∧ Aside0 (kq ≤ kj27) ∧ Aside0 (wc.heap[gb119]? = some (.cells #[.int .i64 ((rd_T37 l2 x13_3).f0), .int .i64 ((rd_T37 l2 x13_3).f1), .int .i64 ((rd_T37 l2 x13_3).f2), .string ((rd_T37 l2 x13_3).f3), .bool ((rd_T37 l2 x13_3).f4), .bool ((rd_T37 l2 x13_3).f5)] 37 (0, 0))) ∧ Aside0 (Below w.heap.size w wc))
                                case first =>
                                  have H := HC32.out
                                  clear HC32
                                  by_cases c34 : ((rd_T37 l2 x13_3).f2) = 3
                                  · rw [if_pos c34] at H
                                    have c34b0 : (((rd_T37 l2 x13_3).f2) == 3) = true := beq_iff_eq.mpr c34
                                    have c34b1 : (((rd_T37 l2 x13_3).f2) != 3) = false := bne_eq_false_iff_eq.mpr c34
                                    clear c34
                                    (first | rw [c34b0] | (simp only [i64_w, i32_w]; rw [c34b0]) | skip)
                                    have H' := Aside0.mk H
                                    clear H
                                    go_wp2
                                    go_meet
                                    case rel => exact ⟨_, ((⟨#[]⟩ : ByteArray)), (false), (by first | rfl | (simp; done) | (simp [*]; done)), (by first | rfl | (simp; done) | (simp [*]; done)), H', ⟨by have := HK1.out; have := HJ8.out; have := HK3.out; have := HJ17.out; have := HJ27.out; first | omega | exact Nat.le_refl _⟩, ⟨by (with_reducible repeat (first | refine blk_drewN ?_ _ | refine blk_drew ?_ | refine blk_alloc ?_ _)); exact BK119.out⟩, ⟨by repeat (first | (with_reducible first | exact HB.out | apply below_alloc | apply pw_below_drewN | apply below_drew1 | refine below_set ?_ GE119.out) | exact HB.out)⟩⟩
                                  · rw [if_neg c34] at H
                                    have c34b0 : (((rd_T37 l2 x13_3).f2) == 3) = false := beq_eq_false_iff_ne.mpr c34
                                    have c34b1 : (((rd_T37 l2 x13_3).f2) != 3) = true := bne_iff_ne.mpr c34
                                    (first | rw [c34b0] | (simp only [i64_w, i32_w]; rw [c34b0]) | skip)
                                    have H' := Aside0.mk H
                                    clear H
                                    go_wp2
                                    go_meet
                                    case rel => exact ⟨_, (x17_27), (x18_27), (by first | rfl | (simp; done) | (simp [*]; done)), (by first | rfl | (simp; done) | (simp [*]; done)), H', ⟨by have := HK1.out; have := HJ8.out; have := HK3.out; have := HJ17.out; have := HJ27.out; first | omega | exact Nat.le_refl _⟩, ⟨by (with_reducible repeat (first | refine blk_drewN ?_ _ | refine blk_drew ?_ | refine blk_alloc ?_ _)); exact BK119.out⟩, ⟨by repeat (first | (with_reducible first | exact HB.out | apply below_alloc | apply pw_below_drewN | apply below_drew1 | refine below_set ?_ GE119.out) | exact HB.out)⟩⟩
                                case rest =>
                                  clear HC32
                                  try clear c1
                                  try clear p1
                                  try clear q1
                                  try clear hx1
                                  try clear c2
                                  try clear p2
                                  try clear c3
                                  try clear c6
                                  try clear c6b0
                                  try clear p6
                                  try clear c7
                                  try clear c8
                                  try clear c8b0
                                  try clear c10
                                  try clear c11
                                  try clear c11b0
                                  try clear c11b1
                                  try clear c11b2
                                  try clear p11
                                  try clear q11
                                  try clear hx11
                                  try clear c12
                                  try clear c13
                                  try clear c14
                                  try clear c14b0
                                  try clear c15
                                  try clear c15b0
                                  try clear c20
                                  try clear c22
                                  try clear c23
                                  try clear c24
                                  try clear c24b0
                                  try clear c27
                                  try clear c30
                                  try clear c30b0
                                  try clear c30b1
                                  try clear c34
                                  try clear c34b0
                                  try clear c34b1
                                  try clear hcz20_0
                                  try clear hcz20_1
                                  try clear hcz20_2
                                  try clear hcz20_3
                                  try clear hcz20_4
                                  try clear hcz20_5
                                  try clear hcz25_0
                                  try clear hcz25_1
                                  try clear hcz25_2
                                  try clear hcz25_3
                                  try clear hcz25_4
                                  try clear hcz25_5
                                  try clear hcz26_0
                                  try clear hcz26_1
                                  try clear hcz26_2
                                  try clear hcz26_3
                                  try clear hcz26_4
                                  try clear hcz26_5
                                  try clear hcz29_0
                                  try clear hcz29_1
                                  try clear hcz29_2
                                  try clear hcz29_3
                                  try clear hcz29_4
                                  try clear hcz29_5
                                  try clear hcz31_0
                                  try clear hcz31_1
                                  try clear hcz31_2
                                  try clear hcz31_3
                                  try clear hcz31_4
                                  try clear hcz31_5
                                  try clear hcz33_0
                                  try clear hcz33_1
                                  try clear hcz33_2
                                  try clear hcz33_3
                                  try clear hcz33_4
                                  try clear hcz33_5
                                  try clear hfz20_0
                                  try clear hfz20_1
                                  try clear hfz20_2
                                  try clear hfz20_3
                                  try clear hfz20_4
                                  try clear hfz20_5
                                  try clear hfz25_0
                                  try clear hfz25_1
                                  try clear hfz25_2
                                  try clear hfz25_3
                                  try clear hfz25_4
                                  try clear hfz25_5
                                  try clear hfz26_0
                                  try clear hfz26_1
                                  try clear hfz26_2
                                  try clear hfz26_3
                                  try clear hfz26_4
                                  try clear hfz26_5
                                  try clear hfz29_0
                                  try clear hfz29_1
                                  try clear hfz29_2
                                  try clear hfz29_3
                                  try clear hfz29_4
                                  try clear hfz29_5
                                  try clear hfz31_0
                                  try clear hfz31_1
                                  try clear hfz31_2
                                  try clear hfz31_3
                                  try clear hfz31_4
                                  try clear hfz31_5
                                  try clear hfz33_0
                                  try clear hfz33_1
                                  try clear hfz33_2
                                  try clear hfz33_3
                                  try clear hfz33_4
                                  try clear hfz33_5
                                  try clear hx117_0
                                  try clear hx117_1
                                  try clear hx117_2
                                  try clear hx117_3
                                  try clear hx117_4
                                  try clear hx117_5
                                  try clear hx118_0
                                  try clear hx118_1
                                  try clear hx118_2
                                  try clear hx118_3
                                  try clear hx118_4
                                  try clear hx118_5
                                  try clear p1
                                  try clear p11
                                  try clear p117
                                  try clear p118
                                  try clear p2
                                  try clear p6
                                  try clear q1
                                  try clear q11
                                  try clear q117
                                  try clear q118
                                  obtain ⟨kq, x17_31, x18_31, rfl, rfl, HA, HJ31, BK119, HB⟩ := hcut
                                  cases kq with
                                  | zero => exact absurd HA.out (by simp [lamplighterref22_order.j5])
                                  | succ kj31 =>
                                    have H := HA.out
                                    clear HA
                                    simp only [lamplighterref22_order.j5] at H
                                    replace H := Option.bind_eq_some_iff.mp H
                                    obtain ⟨t122, A350, H⟩ := H
                                    replace H : ((lamplighterref22_order.f kj31 x17_31 x18_31 t122 a3 a4).bind fun t125 => (if t125 = true then (some true) else (lamplighterref22_order.l1 kj31 a0 a1 l2 a3 a4 (wrap64 (x13_3 + 1))))) = some r := H
                                    have A35 := Aside0.mk A350
                                    clear A350
                                    replace H := Option.bind_eq_some_iff.mp H
                                    obtain ⟨t125, A360, H⟩ := H
                                    replace H : (if t125 = true then (some true) else (lamplighterref22_order.l1 kj31 a0 a1 l2 a3 a4 (wrap64 (x13_3 + 1)))) = some r := H
                                    have A36 := Aside0.mk A360
                                    clear A360
                                    by_cases c37 : t125 = true
                                    · subst c37
                                      have H1 : (some true) = some r := by rw [if_pos rfl] at H; exact H
                                      clear H
                                      have H := H1
                                      clear H1
                                      obtain rfl := Option.some.inj H
                                      go_wp2_with (first | ((with_reducible refine gate_callee (f := 25) rfl ?_); refine goesL_ (some 97) rfl rfl Try.func25 (by kernel_rfl) rfl #[.slice (some ad118) l2.length c2, .int .i64 x13_3] rfl (by (try simp only [List.map_toArray, List.map_cons, List.map_nil]); first | done | rfl | (simp only [List.length_drop, List.length_take]; rfl)) ?_; (with_reducible refine (lamplighterref22_rest.calls kj31 _ _ l2 x13_3 t122 _ ?side1 ?side2 A35.out).mono ?_); (case side1 => repeat (first | exact (Kd.C_below HR2.out HB.out) | (with_reducible refine Kd.C_alloc ?_ _) | (with_reducible refine Kd.C_drewN ?_ _) | (with_reducible refine Kd.C_drew ?_))); (case side2 => exact HC2.out); rintro e w38 ⟨v123, rfl, ho0, hb⟩; refine ⟨_, rfl, ?_⟩; have n0_ := Aside0.mk (Kd.R_lower (Kd.R_newB ho0 (g := gb119) (o := .cells #[.int .i64 ((rd_T37 l2 x13_3).f0), .int .i64 ((rd_T37 l2 x13_3).f1), .int .i64 ((rd_T37 l2 x13_3).f2), .string ((rd_T37 l2 x13_3).f3), .bool ((rd_T37 l2 x13_3).f4), .bool ((rd_T37 l2 x13_3).f5)] 37 (0, 0)) (by (with_reducible repeat (first | refine blk_drewN ?_ _ | refine blk_drew ?_ | refine blk_alloc ?_ _)); exact BK119.out)) (below_size (by repeat (first | (with_reducible first | exact HB.out | apply below_alloc | apply pw_below_drewN | apply below_drew1 | refine below_set ?_ GE119.out) | exact HB.out)))); have n1_ := Aside0.mk (blk_below (g := gb119) (o := .cells #[.int .i64 ((rd_T37 l2 x13_3).f0), .int .i64 ((rd_T37 l2 x13_3).f1), .int .i64 ((rd_T37 l2 x13_3).f2), .string ((rd_T37 l2 x13_3).f3), .bool ((rd_T37 l2 x13_3).f4), .bool ((rd_T37 l2 x13_3).f5)] 37 (0, 0)) (by (with_reducible repeat (first | refine blk_drewN ?_ _ | refine blk_drew ?_ | refine blk_alloc ?_ _)); exact BK119.out) hb); have n2_ := Aside0.mk (below_step (by repeat (first | (with_reducible first | exact HB.out | apply below_alloc | apply pw_below_drewN | apply below_drew1 | refine below_set ?_ GE119.out) | exact HB.out)) hb); clear BK119; clear HB; have HO124 := n0_; have BK119 := n1_; have HB := n2_; clear n0_ n1_ n2_; (try clear hb); (try clear hb2); (try clear hk); (try clear hi); (try clear ho0); obtain ⟨Ao39, co39, eo39⟩ := Kd.R_slice HO124.out; subst eo39) | ((with_reducible refine gate_callee (f := 20) rfl ?_); refine goesL_ (some 100) rfl rfl Try.func20 (by kernel_rfl) rfl #[.string x17_31, .bool x18_31, .slice Ao39 t122.length co39, .string a3, .bool a4] rfl (by (try simp only [List.map_toArray, List.map_cons, List.map_nil]); first | done | rfl | (simp only [List.length_drop, List.length_take]; rfl)) ?_; (with_reducible refine (ih kj31 (by have := HK1.out; have := HJ8.out; have := HK3.out; have := HJ17.out; have := HJ27.out; have := HJ31.out; omega) x17_31 x18_31 _ _ t122 a3 a4 true _ ?side1 ?side2 A36.out).mono ?_); (case side1 => repeat (first | exact (Kd.R_reads' HO124.out).2.2 | (with_reducible refine Kd.C_alloc ?_ _) | (with_reducible refine Kd.C_drewN ?_ _) | (with_reducible refine Kd.C_drew ?_))); (case side2 => exact (Kd.R_reads' HO124.out).2.1); rintro e w40 ⟨rfl, hb⟩; refine ⟨_, rfl, ?_⟩; have n0_ := Aside0.mk (Kd.R_below (by (with_reducible repeat (first | apply Kd.R_alloc | apply Kd.R_drewN | apply Kd.R_drew)); exact HO124.out) hb); have n1_ := Aside0.mk (blk_below (g := gb119) (o := .cells #[.int .i64 ((rd_T37 l2 x13_3).f0), .int .i64 ((rd_T37 l2 x13_3).f1), .int .i64 ((rd_T37 l2 x13_3).f2), .string ((rd_T37 l2 x13_3).f3), .bool ((rd_T37 l2 x13_3).f4), .bool ((rd_T37 l2 x13_3).f5)] 37 (0, 0)) (by (with_reducible repeat (first | refine blk_drewN ?_ _ | refine blk_drew ?_ | refine blk_alloc ?_ _)); exact BK119.out) hb); have n2_ := Aside0.mk (below_step (by repeat (first | (with_reducible first | exact HB.out | apply below_alloc | apply pw_below_drewN | apply below_drew1 | refine below_set ?_ GE119.out) | exact HB.out)) hb); clear HO124; clear BK119; clear HB; have HO124 := n0_; have BK119 := n1_; have HB := n2_; clear n0_ n1_ n2_; (try clear hb); (try clear hb2); (try clear hk); (try clear hi)))
                                      go_ret
                                      exact ⟨by first | rfl | (simp [errW_none, errW_some] <;> rfl) | (simp [*, errW_none, errW_some] <;> rfl), by repeat (first | (with_reducible first | exact HB.out | apply below_alloc | apply pw_below_drewN | apply below_drew1 | refine below_set ?_ GE119.out) | exact HB.out)⟩
                                    · replace c37 := Bool.eq_false_iff.mpr c37
                                      subst c37
                                      have H1 : (lamplighterref22_order.l1 kj31 a0 a1 l2 a3 a4 (wrap64 (x13_3 + 1))) = some r := by rw [if_neg (show ¬ (false = true) by decide)] at H; exact H
                                      clear H
                                      have H := H1
                                      clear H1
                                      have H' := Aside0.mk H
                                      clear H
                                      go_wp2_with (first | ((with_reducible refine gate_callee (f := 25) rfl ?_); refine goesL_ (some 97) rfl rfl Try.func25 (by kernel_rfl) rfl #[.slice (some ad118) l2.length c2, .int .i64 x13_3] rfl (by (try simp only [List.map_toArray, List.map_cons, List.map_nil]); first | done | rfl | (simp only [List.length_drop, List.length_take]; rfl)) ?_; (with_reducible refine (lamplighterref22_rest.calls kj31 _ _ l2 x13_3 t122 _ ?side1 ?side2 A35.out).mono ?_); (case side1 => repeat (first | exact (Kd.C_below HR2.out HB.out) | (with_reducible refine Kd.C_alloc ?_ _) | (with_reducible refine Kd.C_drewN ?_ _) | (with_reducible refine Kd.C_drew ?_))); (case side2 => exact HC2.out); rintro e w41 ⟨v123, rfl, ho0, hb⟩; refine ⟨_, rfl, ?_⟩; have n0_ := Aside0.mk (Kd.R_lower (Kd.R_newB ho0 (g := gb119) (o := .cells #[.int .i64 ((rd_T37 l2 x13_3).f0), .int .i64 ((rd_T37 l2 x13_3).f1), .int .i64 ((rd_T37 l2 x13_3).f2), .string ((rd_T37 l2 x13_3).f3), .bool ((rd_T37 l2 x13_3).f4), .bool ((rd_T37 l2 x13_3).f5)] 37 (0, 0)) (by (with_reducible repeat (first | refine blk_drewN ?_ _ | refine blk_drew ?_ | refine blk_alloc ?_ _)); exact BK119.out)) (below_size (by repeat (first | (with_reducible first | exact HB.out | apply below_alloc | apply pw_below_drewN | apply below_drew1 | refine below_set ?_ GE119.out) | exact HB.out)))); have n1_ := Aside0.mk (blk_below (g := gb119) (o := .cells #[.int .i64 ((rd_T37 l2 x13_3).f0), .int .i64 ((rd_T37 l2 x13_3).f1), .int .i64 ((rd_T37 l2 x13_3).f2), .string ((rd_T37 l2 x13_3).f3), .bool ((rd_T37 l2 x13_3).f4), .bool ((rd_T37 l2 x13_3).f5)] 37 (0, 0)) (by (with_reducible repeat (first | refine blk_drewN ?_ _ | refine blk_drew ?_ | refine blk_alloc ?_ _)); exact BK119.out) hb); have n2_ := Aside0.mk (below_step (by repeat (first | (with_reducible first | exact HB.out | apply below_alloc | apply pw_below_drewN | apply below_drew1 | refine below_set ?_ GE119.out) | exact HB.out)) hb); clear BK119; clear HB; have HO124 := n0_; have BK119 := n1_; have HB := n2_; clear n0_ n1_ n2_; (try clear hb); (try clear hb2); (try clear hk); (try clear hi); (try clear ho0); obtain ⟨Ao42, co42, eo42⟩ := Kd.R_slice HO124.out; subst eo42) | ((with_reducible refine gate_callee (f := 20) rfl ?_); refine goesL_ (some 100) rfl rfl Try.func20 (by kernel_rfl) rfl #[.string x17_31, .bool x18_31, .slice Ao42 t122.length co42, .string a3, .bool a4] rfl (by (try simp only [List.map_toArray, List.map_cons, List.map_nil]); first | done | rfl | (simp only [List.length_drop, List.length_take]; rfl)) ?_; (with_reducible refine (ih kj31 (by have := HK1.out; have := HJ8.out; have := HK3.out; have := HJ17.out; have := HJ27.out; have := HJ31.out; omega) x17_31 x18_31 _ _ t122 a3 a4 false _ ?side1 ?side2 A36.out).mono ?_); (case side1 => repeat (first | exact (Kd.R_reads' HO124.out).2.2 | (with_reducible refine Kd.C_alloc ?_ _) | (with_reducible refine Kd.C_drewN ?_ _) | (with_reducible refine Kd.C_drew ?_))); (case side2 => exact (Kd.R_reads' HO124.out).2.1); rintro e w43 ⟨rfl, hb⟩; refine ⟨_, rfl, ?_⟩; have n0_ := Aside0.mk (Kd.R_below (by (with_reducible repeat (first | apply Kd.R_alloc | apply Kd.R_drewN | apply Kd.R_drew)); exact HO124.out) hb); have n1_ := Aside0.mk (blk_below (g := gb119) (o := .cells #[.int .i64 ((rd_T37 l2 x13_3).f0), .int .i64 ((rd_T37 l2 x13_3).f1), .int .i64 ((rd_T37 l2 x13_3).f2), .string ((rd_T37 l2 x13_3).f3), .bool ((rd_T37 l2 x13_3).f4), .bool ((rd_T37 l2 x13_3).f5)] 37 (0, 0)) (by (with_reducible repeat (first | refine blk_drewN ?_ _ | refine blk_drew ?_ | refine blk_alloc ?_ _)); exact BK119.out) hb); have n2_ := Aside0.mk (below_step (by repeat (first | (with_reducible first | exact HB.out | apply below_alloc | apply pw_below_drewN | apply below_drew1 | refine below_set ?_ GE119.out) | exact HB.out)) hb); clear HO124; clear BK119; clear HB; have HO124 := n0_; have BK119 := n1_; have HB := n2_; clear n0_ n1_ n2_; (try clear hb); (try clear hb2); (try clear hk); (try clear hi)))
                                      go_roundg kj31
                                      case measure => have := HK1.out; have := HJ8.out; have := HK3.out; have := HJ17.out; have := HJ27.out; have := HJ31.out; omega
                                      case rel => exact ⟨(wrap64 (x13_3 + 1)), (by first | rfl | (simp; done) | (simp [*]; done)), H', ⟨by have := HK1.out; have := HJ8.out; have := HK3.out; have := HJ17.out; have := HJ27.out; have := HJ31.out; omega⟩, ⟨by repeat (first | (with_reducible first | exact HB.out | apply below_alloc | apply pw_below_drewN | apply below_drew1 | refine below_set ?_ GE119.out) | exact HB.out)⟩⟩
                    · rw [if_neg c15] at H
                      exact absurd H (by simp)
                  · rw [if_neg c14] at H
                    have c14b0 : decide (x13_3 < (l2.length : Int)) = false := decide_eq_false c14
                    clear c14
                    obtain rfl := Option.some.inj H
                    go_wp2
                    go_ret
                    exact ⟨by first | rfl | (simp [errW_none, errW_some] <;> rfl) | (simp [*, errW_none, errW_some] <;> rfl), by repeat (first | (with_reducible first | exact HB.out | apply below_alloc | apply pw_below_drewN | apply below_drew1) | exact HB.out)⟩

end
end Go.Proofs.Ytdblecmelmeibaa.PL
