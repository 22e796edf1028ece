/- Written by this session's own program (hprint.py) with the help of the kit's print. Lean checks it. -/
import Derived.Test.YtliaemoomhfcdaaMX
import Derived.Test.YtliaemoomhfcdaaITx0
import Derived.Test.YtliaemoomhfcdaaITx2
import Derived.Test.YtliaemoomhfcdaaGivenRF
import Derived.Test.YtliaemoomhfcdaaMD
import Derived.Test.YtliaemoomhfcdaaMA
namespace Go.Proofs.Ytliaemoomhfcdaa.IT
attribute [local go_sem] Go.Proofs.Ytliaemoomhfcdaa.le_flip
open Go.Proofs.Ytliaemoomhfcdaa.AW Go.Proofs.Ytliaemoomhfcdaa.RF   -- OPENED
open Go.RowKit Go.Proofs.YtliaemoomhfcdaaW.PrintWords Go.Proofs.YtliaemoomhfcdaaW.PrintLast Go.Proofs.YtliaemoomhfcdaaW.PrintMore
attribute [local go_sem] max2_int min2_int max_two min_two max_three min_three max_four min_four   -- for this text's walks alone
set_option linter.unusedVariables false
set_option linter.unusedSimpArgs false
noncomputable section

/-! ### lamplighterref15_Find: function 18 -/
def lamplighterref15_Find.l0 : Nat → List Int → Int → ByteArray → Int → Int → Option (Int × Int)
  | 0, _, _, _, _, _ => none
  | k + 1, x0, x1, x2, x3, x10 => if x10 < 600 then ((lamplighterref15_Down.f k x0 x1 x2 x3).bind fun bt154 => (if bt154.2 = 0 then (if bt154.1 = x1 then (some (bt154.1, bt154.2)) else (lamplighterref15_Find.l0 k x0 bt154.1 x2 x3 (wrap64 (x10 + 1)))) else (some (bt154.1, bt154.2)))) else (some (0, 90))
def lamplighterref15_Find.f (k : Nat) (l0 : List Int) (a1 : Int) (a2 : ByteArray) (a3 : Int) : Option (Int × Int) := lamplighterref15_Find.l0 k l0 a1 a2 a3 0
theorem lamplighterref15_Find.mono_l : ∀ k, (∀ y0 y1 y2 y3 y4, LeO (lamplighterref15_Find.l0 k y0 y1 y2 y3 y4) (lamplighterref15_Find.l0 (k + 1) y0 y1 y2 y3 y4))
  | 0 => fun _ _ _ _ _ r h => by simp [lamplighterref15_Find.l0] at h
  | k + 1 => by
    have ih0 := lamplighterref15_Find.mono_l k
    · intro y0 y1 y2 y3 y4
      unfold lamplighterref15_Find.l0
      repeat' first
      | (with_reducible exact ih0 _ _ _ _ _)
      | (with_reducible exact lamplighterref15_Down.mono _ _ _ _ _)
      | (with_reducible exact LeO.refl _)
      | (with_reducible exact LeO.none _)
      | (with_reducible refine LeO.ite ?_ ?_)
      | (with_reducible refine LeO.bind ?_ (fun _ => ?_))
      | exact ih0 _ _ _ _ _
      | exact lamplighterref15_Down.mono _ _ _ _ _
      | exact LeO.none _
      | refine LeO.ite ?_ ?_
      | refine LeO.bind ?_ (fun _ => ?_)
theorem lamplighterref15_Find.mono : ∀ a0 a1 a2 a3 k, LeO (lamplighterref15_Find.f k a0 a1 a2 a3) (lamplighterref15_Find.f (k + 1) a0 a1 a2 a3) := by
 intro a0 a1 a2 a3 k
 have ih0 := lamplighterref15_Find.mono_l k
 unfold lamplighterref15_Find.f
 repeat' first
     | (with_reducible exact ih0 _ _ _ _ _)
     | (with_reducible exact lamplighterref15_Down.mono _ _ _ _ _)
     | (with_reducible exact LeO.refl _)
     | (with_reducible exact LeO.none _)
     | (with_reducible refine LeO.ite ?_ ?_)
     | (with_reducible refine LeO.bind ?_ (fun _ => ?_))
     | exact ih0 _ _ _ _ _
     | exact lamplighterref15_Down.mono _ _ _ _ _
     | exact LeO.none _
     | refine LeO.ite ?_ ?_
     | refine LeO.bind ?_ (fun _ => ?_)
set_option maxHeartbeats 8000000 in
set_option maxRecDepth 100000 in
theorem lamplighterref15_Find.calls (k : Nat) (A0 : Option Addr) (c0 : Nat) (l0 : List Int) (a1 : Int) (a2 : ByteArray) (a3 : Int) (r1 : Int) (r2 : Int) (w : World) (hr0 : Kd.C (Kd.int .i64) w A0 l0.length l0) (hc0 : l0.length ≤ c0) (h : lamplighterref15_Find.f k l0 a1 a2 a3 = some (r1, r2)) :
    Calls Try.prog 18 #[.slice A0 l0.length c0, .int .i64 a1, .string a2, .int .i64 a3] w fun e w' => e = .returned (.tuple #[.int .i64 r1, .int .i64 r2]) ∧ Below w.heap.size w w' := by
 have HR0 := Aside0.mk hr0
 have HC0 := Aside0.mk hc0
 clear hr0 hc0
 have HB := Aside0.mk (Below.refl w.heap.size w)
 have H : (lamplighterref15_Find.l0 k l0 a1 a2 a3 0) = some (r1, r2) := h
 clear h
 have H' := Aside0.mk H
 clear H
 go_enter Try.func18, Try.ntmps18
 go_wp2
 go_loopg [1, 10] k (fun kq v1 v10 w' => ∃ (x1_1 : Int) (x10_1 : Int), v1 = .int .i64 x1_1 ∧ v10 = .int .i64 x10_1 ∧ Aside0 (lamplighterref15_Find.l0 kq l0 x1_1 a2 a3 x10_1 = some (r1, r2)) ∧ Aside0 (kq ≤ k) ∧ Aside0 (Below w.heap.size w w'))
 case atStart => exact ⟨(a1), (0), (by first | rfl | (simp; done) | (simp [*]; done)), (by first | rfl | (simp; done) | (simp [*]; done)), H', ⟨Nat.le_refl _⟩, ⟨by repeat (first | (with_reducible first | exact HB.out | apply below_alloc | apply pw_below_drewN | apply below_drew1) | exact HB.out)⟩⟩
 case round =>
  clear H'
  try clear c1
  try clear p2
  obtain ⟨x1_1, x10_1, rfl, rfl, HA, HK1, HB⟩ := hrel
  cases gk with
  | zero => exact absurd HA.out (by simp [lamplighterref15_Find.l0])
  | succ k1 =>
   have H := HA.out
   clear HA
   simp only [lamplighterref15_Find.l0] at H
   by_cases c5 : x10_1 < 600
   rw [if_pos c5] at H
   have c5b0 : decide (x10_1 < 600) = true := decide_eq_true c5
   clear c5
   replace H := Option.bind_eq_some_iff.mp H
   obtain ⟨⟨tv1, tv2⟩, Av1, H⟩ := H
   try dsimp only at H
   have Av2 := Aside0.mk Av1
   clear Av1
   by_cases cv1 : tv2 = 0
   rw [if_pos cv1] at H
   have c7b0 : (tv2 == 0) = true := beq_iff_eq.mpr cv1
   have c7b1 : (tv2 != 0) = false := bne_eq_false_iff_eq.mpr cv1
   clear cv1
   by_cases cv2 : tv1 = x1_1
   rw [if_pos cv2] at H
   have c8b0 : (tv1 == x1_1) = true := beq_iff_eq.mpr cv2
   have c8b1 : (tv1 != x1_1) = false := bne_eq_false_iff_eq.mpr cv2
   clear cv2
   have hq0 := Aside0.mk True.intro
   rotate_left
   · rw [if_neg cv2] at H
     have c8b0 : (tv1 == x1_1) = false := beq_eq_false_iff_ne.mpr cv2
     have c8b1 : (tv1 != x1_1) = true := bne_iff_ne.mpr cv2
     have H' := Aside0.mk H
     clear H
     go_wp2_with (first | ((with_reducible refine gate_callee (f := 16) rfl ?_); refine goesL_ (some 22) rfl rfl Try.func16 (by kernel_rfl) rfl #[.slice A0 l0.length c0, .int .i64 x1_1, .string a2, .int .i64 a3] rfl (by (try simp only [List.map_toArray, List.map_cons, List.map_nil]); first | done | rfl | (simp only [List.length_drop, List.length_take]; rfl)) ?_; (with_reducible refine (lamplighterref15_Down.calls k1 _ _ l0 x1_1 a2 a3 tv1 tv2 _ ?side1 ?side2 Av2.out).mono ?_); (case side1 => repeat (first | exact (Kd.C_below HR0.out HB.out) | (with_reducible refine Kd.C_alloc ?_ _) | (with_reducible refine Kd.C_drewN ?_ _) | (with_reducible refine Kd.C_drew ?_))); (case side2 => exact HC0.out); rintro e wv1 ⟨rfl, hb⟩; refine ⟨_, rfl, ?_⟩; have n0_ := Aside0.mk (below_step (by repeat (first | (with_reducible first | exact HB.out | apply below_alloc | apply pw_below_drewN | apply below_drew1) | exact HB.out)) hb); clear HB; have HB := n0_; clear n0_; (try clear hb); (try clear hbv1); (try clear hk); (try clear hi)))
     go_roundg k1
     case measure => have := HK1.out; omega
     case rel => exact ⟨(tv1), (wrap64 (x10_1 + 1)), (by first | rfl | (simp; done) | (simp [*]; done)), (by first | rfl | (simp; done) | (simp [*]; done)), H', ⟨by have := HK1.out; omega⟩, ⟨by repeat (first | (with_reducible first | exact HB.out | apply below_alloc | apply pw_below_drewN | apply below_drew1) | exact HB.out)⟩⟩
   rw [if_neg cv1] at H
   have c7b0 : (tv2 == 0) = false := beq_eq_false_iff_ne.mpr cv1
   have c7b1 : (tv2 != 0) = true := bne_iff_ne.mpr cv1
   have hq0 := Aside0.mk True.intro
   rotate_left
   rw [if_neg c5] at H
   have c5b0 : decide (x10_1 < 600) = false := decide_eq_false c5
   clear c5
   simp only [Option.some.injEq, Prod.mk.injEq] at H
   obtain ⟨rfl, rfl⟩ := H
   focus go_wp2
   have hq1 := Aside0.mk True.intro
   rotate_left
   all_goals first
     | (clear hq0
        simp only [Option.some.injEq, Prod.mk.injEq] at H
        obtain ⟨rfl, rfl⟩ := H
        go_wp2_with (first | ((with_reducible refine gate_callee (f := 16) rfl ?_); refine goesL_ (some 22) rfl rfl Try.func16 (by kernel_rfl) rfl #[.slice A0 l0.length c0, .int .i64 x1_1, .string a2, .int .i64 a3] rfl (by (try simp only [List.map_toArray, List.map_cons, List.map_nil]); first | done | rfl | (simp only [List.length_drop, List.length_take]; rfl)) ?_; (with_reducible refine (lamplighterref15_Down.calls k1 _ _ l0 x1_1 a2 a3 tv1 tv2 _ ?side1 ?side2 Av2.out).mono ?_); (case side1 => repeat (first | exact (Kd.C_below HR0.out HB.out) | (with_reducible refine Kd.C_alloc ?_ _) | (with_reducible refine Kd.C_drewN ?_ _) | (with_reducible refine Kd.C_drew ?_))); (case side2 => exact HC0.out); rintro e wz1 ⟨rfl, hb⟩; refine ⟨_, rfl, ?_⟩; have n0_ := Aside0.mk (below_step (by repeat (first | (with_reducible first | exact HB.out | apply below_alloc | apply pw_below_drewN | apply below_drew1) | exact HB.out)) hb); clear HB; have HB := n0_; clear n0_; (try clear hb); (try clear hbz1); (try clear hk); (try clear hi)))
        go_ret2
        exact ⟨by first | rfl | (simp [errW_none, errW_some] <;> rfl) | (simp [*, errW_none, errW_some] <;> rfl), by repeat (first | (with_reducible first | exact HB.out | apply below_alloc | apply pw_below_drewN | apply below_drew1) | exact HB.out)⟩)
     | (clear hq1
        go_ret2
        exact ⟨by first | rfl | (simp [errW_none, errW_some] <;> rfl) | (simp [*, errW_none, errW_some] <;> rfl), by repeat (first | (with_reducible first | exact HB.out | apply below_alloc | apply pw_below_drewN | apply below_drew1) | exact HB.out)⟩)
/-! ### lamplighterref15_Place: function 20 -/
mutual
def lamplighterref15_Place.l0 : Nat → List Int → ByteArray → Int → Int → Int → Int → Int → Int → List Int → Option (Int × Bool)
  | 0, _, _, _, _, _, _, _, _, _ => none
  | k + 1, x0, x2, x8, x9, x157000, x157001, x157002, x157003, x157004 => if x9 ≥ 0 then (if 0 ≤ x9 then (if x9 < (x157004.length : Int) then ((lamplighterref07_Read.f x0 (rd x157004 x9)).bind fun bt158 => (if bt158.2.2.2.2 = 0 then (if (Op.bytesLess x2.toList bt158.2.1.toList) = true then (lamplighterref15_Place.l0 k x0 x2 x9 (wrap64 (x9 - 1)) x157000 x157001 x157002 x157003 x157004) else (lamplighterref15_Place.l0 k x0 x2 x8 (wrap64 (x9 - 1)) x157000 x157001 x157002 x157003 x157004)) else (lamplighterref15_Place.l0 k x0 x2 x8 (wrap64 (x9 - 1)) x157000 x157001 x157002 x157003 x157004))) else (none)) else (none)) else (lamplighterref15_Place.l1 k x0 x2 x8 0 x157000 x157001 x157002 x157003 x157004)
def lamplighterref15_Place.l1 : Nat → List Int → ByteArray → Int → Int → Int → Int → Int → Int → List Int → Option (Int × Bool)
  | 0, _, _, _, _, _, _, _, _, _ => none
  | k + 1, x0, x2, x8, x12, x157000, x157001, x157002, x157003, x157004 => if x12 < (x157004.length : Int) then (if 0 ≤ x12 then ((lamplighterref07_Read.f x0 (rd x157004 x12)).bind fun bt165 => (if bt165.2.2.2.2 = 0 then (if bt165.2.1.toList = x2.toList then (some (x12, true)) else (lamplighterref15_Place.l1 k x0 x2 x8 (wrap64 (x12 + 1)) x157000 x157001 x157002 x157003 x157004)) else (lamplighterref15_Place.l1 k x0 x2 x8 (wrap64 (x12 + 1)) x157000 x157001 x157002 x157003 x157004))) else (none)) else (some (x8, false))
end
def lamplighterref15_Place.f (k : Nat) (l0 : List Int) (a1_0 : Int) (a1_1 : Int) (a1_2 : Int) (a1_3 : Int) (l1_4 : List Int) (a2 : ByteArray) : Option (Int × Bool) := lamplighterref15_Place.l0 k l0 a2 (l1_4.length : Int) (wrap64 ((l1_4.length : Int) - 1)) a1_0 a1_1 a1_2 a1_3 l1_4
theorem lamplighterref15_Place.mono_l : ∀ k, (∀ y0 y1 y2 y3 y4 y5 y6 y7 y8, LeO (lamplighterref15_Place.l0 k y0 y1 y2 y3 y4 y5 y6 y7 y8) (lamplighterref15_Place.l0 (k + 1) y0 y1 y2 y3 y4 y5 y6 y7 y8)) ∧ (∀ y0 y1 y2 y3 y4 y5 y6 y7 y8, LeO (lamplighterref15_Place.l1 k y0 y1 y2 y3 y4 y5 y6 y7 y8) (lamplighterref15_Place.l1 (k + 1) y0 y1 y2 y3 y4 y5 y6 y7 y8))
  | 0 => ⟨fun _ _ _ _ _ _ _ _ _ r h => by simp [lamplighterref15_Place.l0] at h, fun _ _ _ _ _ _ _ _ _ r h => by simp [lamplighterref15_Place.l1] at h⟩
  | k + 1 => by
    obtain ⟨ih0, ih1⟩ := lamplighterref15_Place.mono_l k
    refine ⟨?_, ?_⟩
    · intro y0 y1 y2 y3 y4 y5 y6 y7 y8
      unfold lamplighterref15_Place.l0
      repeat' first
      | (with_reducible exact ih0 _ _ _ _ _ _ _ _ _)
      | (with_reducible exact ih1 _ _ _ _ _ _ _ _ _)
      | (with_reducible exact LeO.refl _)
      | (with_reducible exact LeO.none _)
      | (with_reducible refine LeO.ite ?_ ?_)
      | (with_reducible refine LeO.bind ?_ (fun _ => ?_))
      | exact ih0 _ _ _ _ _ _ _ _ _
      | exact ih1 _ _ _ _ _ _ _ _ _
      | exact LeO.none _
      | refine LeO.ite ?_ ?_
      | refine LeO.bind ?_ (fun _ => ?_)
    · intro y0 y1 y2 y3 y4 y5 y6 y7 y8
      unfold lamplighterref15_Place.l1
      repeat' first
      | (with_reducible exact ih0 _ _ _ _ _ _ _ _ _)
      | (with_reducible exact ih1 _ _ _ _ _ _ _ _ _)
      | (with_reducible exact LeO.refl _)
      | (with_reducible exact LeO.none _)
      | (with_reducible refine LeO.ite ?_ ?_)
      | (with_reducible refine LeO.bind ?_ (fun _ => ?_))
      | exact ih0 _ _ _ _ _ _ _ _ _
      | exact ih1 _ _ _ _ _ _ _ _ _
      | exact LeO.none _
      | refine LeO.ite ?_ ?_
      | refine LeO.bind ?_ (fun _ => ?_)
theorem lamplighterref15_Place.mono : ∀ a0 a1 a2 a3 a4 a5 a6 k, LeO (lamplighterref15_Place.f k a0 a1 a2 a3 a4 a5 a6) (lamplighterref15_Place.f (k + 1) a0 a1 a2 a3 a4 a5 a6) := by
 intro a0 a1 a2 a3 a4 a5 a6 k
 obtain ⟨ih0, ih1⟩ := lamplighterref15_Place.mono_l k
 unfold lamplighterref15_Place.f
 repeat' first
     | (with_reducible exact ih0 _ _ _ _ _ _ _ _ _)
     | (with_reducible exact ih1 _ _ _ _ _ _ _ _ _)
     | (with_reducible exact LeO.refl _)
     | (with_reducible exact LeO.none _)
     | (with_reducible refine LeO.ite ?_ ?_)
     | (with_reducible refine LeO.bind ?_ (fun _ => ?_))
     | exact ih0 _ _ _ _ _ _ _ _ _
     | exact ih1 _ _ _ _ _ _ _ _ _
     | exact LeO.none _
     | refine LeO.ite ?_ ?_
     | refine LeO.bind ?_ (fun _ => ?_)
set_option maxHeartbeats 8000000 in
set_option maxRecDepth 100000 in
theorem lamplighterref15_Place.calls (k : Nat) (A0 : Option Addr) (c0 : Nat) (l0 : List Int) (a1_0 : Int) (a1_1 : Int) (a1_2 : Int) (a1_3 : Int) (A1_4 : Option Addr) (c1_4 : Nat) (l1_4 : List Int) (a2 : ByteArray) (r1 : Int) (r2 : Bool) (w : World) (hr0 : Kd.C (Kd.int .i64) w A0 l0.length l0) (hc0 : l0.length ≤ c0) (hr1_4 : Kd.C (Kd.int .i64) w A1_4 l1_4.length l1_4) (hc1_4 : l1_4.length ≤ c1_4) (h : lamplighterref15_Place.f k l0 a1_0 a1_1 a1_2 a1_3 l1_4 a2 = some (r1, r2)) :
    Calls Try.prog 20 #[.slice A0 l0.length c0, .agg #[.int .i64 a1_0, .int .i64 a1_1, .int .i64 a1_2, .int .i64 a1_3, .slice A1_4 l1_4.length c1_4], .string a2] w fun e w' => e = .returned (.tuple #[.int .i64 r1, .bool r2]) ∧ Below w.heap.size w w' := by
 have hu24 := Try.underlying24
 have hu62 := Try.underlying62
 have HR0 := Aside0.mk hr0
 have HC0 := Aside0.mk hc0
 clear hr0 hc0
 have HR1_4 := Aside0.mk hr1_4
 have HC1_4 := Aside0.mk hc1_4
 clear hr1_4 hc1_4
 have HB := Aside0.mk (Below.refl w.heap.size w)
 have H : (lamplighterref15_Place.l0 k l0 a2 (l1_4.length : Int) (wrap64 ((l1_4.length : Int) - 1)) a1_0 a1_1 a1_2 a1_3 l1_4) = some (r1, r2) := h
 clear h
 have H' := Aside0.mk H
 clear H
 go_enter Try.func20, Try.ntmps20
 go_wp2_with (first | ((with_reducible refine gate_dst (N := 4) rfl ?_); refine box_event ?hg (N := 4) ?hd (cs := #[.int .i64 a1_0, .int .i64 a1_1, .int .i64 a1_2, .int .i64 a1_3, .slice A1_4 l1_4.length c1_4]) (t := 24) ?hr ?_; (case hd => rfl); (case hg => rfl); (case hr => first | (go_simp; done) | (go_simp; rfl)); intro gb156 hg w4 hbox hb; have n0_ := Aside0.mk (below_step (by repeat (first | (with_reducible first | exact HB.out | apply below_alloc | apply pw_below_drewN | apply below_drew1) | exact HB.out)) hb); have n1_ := Aside0.mk (hbox); have n2_ := Aside0.mk ((by rw [hg]; exact (below_size (by repeat (first | (with_reducible first | exact HB.out | apply below_alloc | apply pw_below_drewN | apply below_drew1) | exact HB.out))) : w.heap.size ≤ gb156)); have n3_ := Aside0.mk ((by rw [hg]; exact (below_size (by repeat (first | (with_reducible first | exact HB.out | apply below_alloc | apply pw_below_drewN | apply below_drew1) | exact HB.out))) : w.heap.size ≤ gb156)); clear HB; have HB := n0_; have BK156 := n1_; have GW156 := n2_; have GE156 := n3_; clear n0_ n1_ n2_ n3_; clear hb hbox hg; have hcz5_0 : w4.cell? ⟨gb156, 0, none⟩ = some (.int .i64 a1_0) := (blk_cell BK156.out 0).trans rfl; have hcz5_1 : w4.cell? ⟨gb156, 1, none⟩ = some (.int .i64 a1_1) := (blk_cell BK156.out 1).trans rfl; have hcz5_2 : w4.cell? ⟨gb156, 2, none⟩ = some (.int .i64 a1_2) := (blk_cell BK156.out 2).trans rfl; have hcz5_3 : w4.cell? ⟨gb156, 3, none⟩ = some (.int .i64 a1_3) := (blk_cell BK156.out 3).trans rfl; have hcz5_4 : w4.cell? ⟨gb156, 4, none⟩ = some (.slice A1_4 l1_4.length c1_4) := (blk_cell BK156.out 4).trans rfl; have hfz5_0 := blk_frozen BK156.out 0; have hfz5_1 := blk_frozen BK156.out 1; have hfz5_2 := blk_frozen BK156.out 2; have hfz5_3 := blk_frozen BK156.out 3; have hfz5_4 := blk_frozen BK156.out 4))
 go_loopg [8, 9] k (fun kq v8 v9 w' => ∃ (x8_1 : Int) (x9_1 : Int), v8 = .int .i64 x8_1 ∧ v9 = .int .i64 x9_1 ∧ Aside0 (lamplighterref15_Place.l0 kq l0 a2 x8_1 x9_1 a1_0 a1_1 a1_2 a1_3 l1_4 = some (r1, r2)) ∧ Aside0 (kq ≤ k) ∧ Aside0 (w'.heap[gb156]? = some (.cells #[.int .i64 a1_0, .int .i64 a1_1, .int .i64 a1_2, .int .i64 a1_3, (.slice A1_4 l1_4.length c1_4)] 24 (0, 0))) ∧ Aside0 (Below w.heap.size w w'))
 case atStart => exact ⟨((l1_4.length : Int)), (wrap64 ((l1_4.length : Int) - 1)), (by first | rfl | (simp; done) | (simp [*]; done)), (by first | rfl | (simp; done) | (simp [*]; done)), H', ⟨Nat.le_refl _⟩, ⟨by (with_reducible repeat (first | refine blk_drewN ?_ _ | refine blk_drew ?_ | refine blk_alloc ?_ _)); exact BK156.out⟩, ⟨by repeat (first | (with_reducible first | exact HB.out | apply below_alloc | apply pw_below_drewN | apply below_drew1 | refine below_set ?_ GE156.out) | exact HB.out)⟩⟩
 case round =>
  clear H'
  try clear c1
  try clear c2
  try clear p2
  try clear hcz5_0
  try clear hcz5_1
  try clear hcz5_2
  try clear hcz5_3
  try clear hcz5_4
  try clear hfz5_0
  try clear hfz5_1
  try clear hfz5_2
  try clear hfz5_3
  try clear hfz5_4
  obtain ⟨x8_1, x9_1, rfl, rfl, HA, HK1, BK156, HB⟩ := hrel
  cases gk with
  | zero => exact absurd HA.out (by simp [lamplighterref15_Place.l0])
  | succ k1 =>
   have H := HA.out
   clear HA
   simp only [lamplighterref15_Place.l0] at H
   by_cases c6 : x9_1 ≥ 0
   rw [if_pos c6] at H
   have c6b0 : decide (0 ≤ x9_1) = true := decide_eq_true c6
   clear c6
   by_cases cv1 : 0 ≤ x9_1
   rw [if_pos cv1] at H
   have c7b0 : decide (0 ≤ x9_1) = true := decide_eq_true cv1
   clear cv1
   by_cases cv2 : x9_1 < (l1_4.length : Int)
   rw [if_pos cv2] at H
   have c8b0 : decide (x9_1 < (l1_4.length : Int)) = true := decide_eq_true cv2
   clear cv2
   replace H := Option.bind_eq_some_iff.mp H
   obtain ⟨⟨tv1, tv2, tv3, tv4, tv5⟩, Av1, H⟩ := H
   try dsimp only at H
   have Av2 := Aside0.mk Av1
   clear Av1
   by_cases cv3 : tv5 = 0
   rw [if_pos cv3] at H
   have c10b0 : (tv5 == 0) = true := beq_iff_eq.mpr cv3
   have c10b1 : (tv5 != 0) = false := bne_eq_false_iff_eq.mpr cv3
   clear cv3
   by_cases cv4 : (Op.bytesLess a2.toList tv2.toList) = true
   · rw [if_pos cv4] at H
     have c11b0 : (Op.bytesLess a2.toList tv2.toList) = true := cv4
     clear cv4
     have H' := Aside0.mk H
     clear H
     have hczv1 : wr.cell? ⟨gb156, 0, none⟩ = some (.int .i64 a1_0) := (blk_cell BK156.out 0).trans rfl
     have hczv2 : wr.cell? ⟨gb156, 1, none⟩ = some (.int .i64 a1_1) := (blk_cell BK156.out 1).trans rfl
     have hczv3 : wr.cell? ⟨gb156, 2, none⟩ = some (.int .i64 a1_2) := (blk_cell BK156.out 2).trans rfl
     have hczv4 : wr.cell? ⟨gb156, 3, none⟩ = some (.int .i64 a1_3) := (blk_cell BK156.out 3).trans rfl
     have hczv5 : wr.cell? ⟨gb156, 4, none⟩ = some (.slice A1_4 l1_4.length c1_4) := (blk_cell BK156.out 4).trans rfl
     have hfzv1 := blk_frozen BK156.out 0
     have hfzv2 := blk_frozen BK156.out 1
     have hfzv3 := blk_frozen BK156.out 2
     have hfzv4 := blk_frozen BK156.out 3
     have hfzv5 := blk_frozen BK156.out 4
     have pv1 : 0 ≤ (x9_1 : Int) := of_decide_eq_true (by first | (with_reducible assumption) | assumption)
     have qv1 : x9_1 < (l1_4.length : Int) := of_decide_eq_true (by first | (with_reducible assumption) | assumption)
     obtain ⟨adv1, ev1, hxv1⟩ := Kd.at_int HR1_4.out x9_1 pv1 qv1
     cases ev1
     replace hxv1 := (HB.out.cell (World.block_lt_of_cell? w _ hxv1)).trans hxv1
     replace pv1 := eq_true pv1
     replace qv1 := eq_true qv1
     go_wp2_with (first | ((with_reducible refine gate_callee (f := 43) rfl ?_); refine goesL_ (some 33) rfl rfl Try.func43 (by kernel_rfl) rfl #[.slice A0 l0.length c0, .int .i64 (rd l1_4 x9_1)] rfl (by (try simp only [List.map_toArray, List.map_cons, List.map_nil]); first | done | rfl | (simp only [List.length_drop, List.length_take]; rfl)) ?_; (with_reducible refine (lamplighterref07_Read.calls _ _ l0 (rd l1_4 x9_1) tv1 tv2 tv3 tv4 tv5 _ ?side1 ?side2 Av2.out).mono ?_); (case side1 => repeat (first | exact (Kd.C_below HR0.out HB.out) | (with_reducible refine Kd.C_alloc ?_ _) | (with_reducible refine Kd.C_drewN ?_ _) | (with_reducible refine Kd.C_drew ?_))); (case side2 => exact HC0.out); rintro e wv1 ⟨rfl, hb⟩; refine ⟨_, rfl, ?_⟩; have n0_ := Aside0.mk (blk_below (g := gb156) (o := .cells #[.int .i64 a1_0, .int .i64 a1_1, .int .i64 a1_2, .int .i64 a1_3, .slice (some adv1) l1_4.length c1_4] 24 (0, 0)) (by (with_reducible repeat (first | refine blk_drewN ?_ _ | refine blk_drew ?_ | refine blk_alloc ?_ _)); exact BK156.out) hb); have n1_ := Aside0.mk (below_step (by repeat (first | (with_reducible first | exact HB.out | apply below_alloc | apply pw_below_drewN | apply below_drew1 | refine below_set ?_ GE156.out) | exact HB.out)) hb); clear BK156; clear HB; have BK156 := n0_; have HB := n1_; clear n0_ n1_; (try clear hb); (try clear hbv1); (try clear hk); (try clear hi)) | ((with_reducible refine gate_dst (N := 10) rfl ?_); refine box_event ?hg (N := 10) ?hd (cs := #[.int .i64 0, .string (⟨#[]⟩ : ByteArray), .string (⟨#[]⟩ : ByteArray), .int .i64 0]) (t := 62) ?hr ?_; (case hd => rfl); (case hg => rfl); (case hr => first | (go_simp; done) | (go_simp; rfl)); intro gbv1 hg wv2 hbox hb; have n0_ := Aside0.mk (blk_below (g := gb156) (o := .cells #[.int .i64 a1_0, .int .i64 a1_1, .int .i64 a1_2, .int .i64 a1_3, .slice (some adv1) l1_4.length c1_4] 24 (0, 0)) (by (with_reducible repeat (first | refine blk_drewN ?_ _ | refine blk_drew ?_ | refine blk_alloc ?_ _)); exact BK156.out) hb); have n1_ := Aside0.mk (below_step (by repeat (first | (with_reducible first | exact HB.out | apply below_alloc | apply pw_below_drewN | apply below_drew1 | refine below_set ?_ GE156.out) | exact HB.out)) hb); have n2_ := Aside0.mk (hbox); have n3_ := Aside0.mk ((by rw [hg]; exact (below_size (by repeat (first | (with_reducible first | exact HB.out | apply below_alloc | apply pw_below_drewN | apply below_drew1 | refine below_set ?_ GE156.out) | exact HB.out))) : w.heap.size ≤ gbv1)); have n4_ := Aside0.mk ((by rw [hg]; exact (below_size (by repeat (first | (with_reducible first | exact HB.out | apply below_alloc | apply pw_below_drewN | apply below_drew1 | refine below_set ?_ GE156.out) | exact HB.out))) : w.heap.size ≤ gbv1)); have n5_ := Aside0.mk ((by rw [hg]; exact Nat.ne_of_lt (blk_lt (g := gb156) (o := .cells #[.int .i64 a1_0, .int .i64 a1_1, .int .i64 a1_2, .int .i64 a1_3, .slice (some adv1) l1_4.length c1_4] 24 (0, 0)) (by (with_reducible repeat (first | refine blk_drewN ?_ _ | refine blk_drew ?_ | refine blk_alloc ?_ _)); exact BK156.out)) : gb156 ≠ gbv1)); have n6_ := Aside0.mk ((by rw [hg]; exact Nat.ne_of_gt (blk_lt (g := gb156) (o := .cells #[.int .i64 a1_0, .int .i64 a1_1, .int .i64 a1_2, .int .i64 a1_3, .slice (some adv1) l1_4.length c1_4] 24 (0, 0)) (by (with_reducible repeat (first | refine blk_drewN ?_ _ | refine blk_drew ?_ | refine blk_alloc ?_ _)); exact BK156.out)) : gbv1 ≠ gb156)); clear BK156; clear HB; have BK156 := n0_; have HB := n1_; have BKv1 := n2_; have GWv1 := n3_; have GEv1 := n4_; have NBv1 := n5_; have NBv2 := n6_; clear n0_ n1_ n2_ n3_ n4_ n5_ n6_; clear hb hbox hg; have hnbv1 := NBv2.out; have hncv1 := NBv1.out; have hczv6 : wv2.cell? ⟨gbv1, 0, none⟩ = some (.int .i64 0) := (blk_cell BKv1.out 0).trans rfl; have hczv7 : wv2.cell? ⟨gbv1, 1, none⟩ = some (.string (⟨#[]⟩ : ByteArray)) := (blk_cell BKv1.out 1).trans rfl; have hczv8 : wv2.cell? ⟨gbv1, 2, none⟩ = some (.string (⟨#[]⟩ : ByteArray)) := (blk_cell BKv1.out 2).trans rfl; have hczv9 : wv2.cell? ⟨gbv1, 3, none⟩ = some (.int .i64 0) := (blk_cell BKv1.out 3).trans rfl; have hfzv6 := blk_frozen BKv1.out 0; have hfzv7 := blk_frozen BKv1.out 1; have hfzv8 := blk_frozen BKv1.out 2; have hfzv9 := blk_frozen BKv1.out 3))
     go_roundg k1
     case measure => have := HK1.out; omega
     case rel => exact ⟨(x9_1), (wrap64 (x9_1 - 1)), (by first | rfl | (simp; done) | (simp [*]; done)), (by first | rfl | (simp; done) | (simp [*]; done)), H', ⟨by have := HK1.out; omega⟩, ⟨by (with_reducible repeat (first | refine blk_drewN ?_ _ | refine blk_drew ?_ | refine blk_alloc ?_ _)); refine blk_far ?_ NBv1.out _; (with_reducible repeat (first | refine blk_drewN ?_ _ | refine blk_drew ?_ | refine blk_alloc ?_ _)); refine blk_far ?_ NBv1.out _; (with_reducible repeat (first | refine blk_drewN ?_ _ | refine blk_drew ?_ | refine blk_alloc ?_ _)); refine blk_far ?_ NBv1.out _; (with_reducible repeat (first | refine blk_drewN ?_ _ | refine blk_drew ?_ | refine blk_alloc ?_ _)); refine blk_far ?_ NBv1.out _; (with_reducible repeat (first | refine blk_drewN ?_ _ | refine blk_drew ?_ | refine blk_alloc ?_ _)); exact BK156.out⟩, ⟨by repeat (first | (with_reducible first | exact HB.out | apply below_alloc | apply pw_below_drewN | apply below_drew1 | refine below_set ?_ GE156.out | refine below_set ?_ GEv1.out) | exact HB.out)⟩⟩
   rw [if_neg cv4] at H
   have c11b0 : (Op.bytesLess a2.toList tv2.toList) = false := by simpa using cv4
   clear cv4
   have hq0 := Aside0.mk True.intro
   rotate_left
   rw [if_neg cv3] at H
   have c10b0 : (tv5 == 0) = false := beq_eq_false_iff_ne.mpr cv3
   have c10b1 : (tv5 != 0) = true := bne_iff_ne.mpr cv3
   have hq0 := Aside0.mk True.intro
   rotate_left
   · rw [if_neg cv2] at H
     exact absurd H (by simp)
   · rw [if_neg cv1] at H
     exact absurd H (by simp)
   · rw [if_neg c6] at H
     have c6b0 : decide (0 ≤ x9_1) = false := decide_eq_false c6
     clear c6
     have H' := Aside0.mk H
     clear H
     go_wp2
     go_loopg [12] k1 (fun kq vv1 w' => ∃ (xv1 : Int), vv1 = .int .i64 xv1 ∧ Aside0 (lamplighterref15_Place.l1 kq l0 a2 x8_1 xv1 a1_0 a1_1 a1_2 a1_3 l1_4 = some (r1, r2)) ∧ Aside0 (kq ≤ k1) ∧ Aside0 (w'.heap[gb156]? = some (.cells #[.int .i64 a1_0, .int .i64 a1_1, .int .i64 a1_2, .int .i64 a1_3, (.slice A1_4 l1_4.length c1_4)] 24 (0, 0))) ∧ Aside0 (Below w.heap.size w w'))
     case atStart => exact ⟨(0), (by first | rfl | (simp; done) | (simp [*]; done)), H', ⟨Nat.le_refl _⟩, ⟨by (with_reducible repeat (first | refine blk_drewN ?_ _ | refine blk_drew ?_ | refine blk_alloc ?_ _)); exact BK156.out⟩, ⟨by repeat (first | (with_reducible first | exact HB.out | apply below_alloc | apply pw_below_drewN | apply below_drew1 | refine below_set ?_ GE156.out) | exact HB.out)⟩⟩
     case round =>
      clear H'
      try clear c1
      try clear pv1
      try clear qv1
      try clear hxv1
      try clear c2
      try clear p2
      try clear cv1
      try clear c6
      try clear c6b0
      try clear pv2
      try clear cv2
      try clear c7b0
      try clear cv3
      try clear c8b0
      try clear cv4
      try clear c10b0
      try clear c10b1
      try clear cv5
      try clear c11b0
      try clear cv6
      try clear pv3
      try clear qv2
      try clear hxv2
      try clear cv7
      try clear cv8
      try clear hczv1
      try clear hczv2
      try clear hczv3
      try clear hczv4
      try clear hczv5
      try clear hczv6
      try clear hczv7
      try clear hczv8
      try clear hczv9
      try clear hczv10
      try clear hczv11
      try clear hczv12
      try clear hczv13
      try clear hczv14
      try clear hczv15
      try clear hczv16
      try clear hczv17
      try clear hczv18
      try clear hczv19
      try clear hczv20
      try clear hczv21
      try clear hczv22
      try clear hczv23
      try clear hczv24
      try clear hczv25
      try clear hczv26
      try clear hczv27
      try clear hcz5_0
      try clear hcz5_1
      try clear hcz5_2
      try clear hcz5_3
      try clear hcz5_4
      try clear hfzv1
      try clear hfzv2
      try clear hfzv3
      try clear hfzv4
      try clear hfzv5
      try clear hfzv6
      try clear hfzv7
      try clear hfzv8
      try clear hfzv9
      try clear hfzv10
      try clear hfzv11
      try clear hfzv12
      try clear hfzv13
      try clear hfzv14
      try clear hfzv15
      try clear hfzv16
      try clear hfzv17
      try clear hfzv18
      try clear hfzv19
      try clear hfzv20
      try clear hfzv21
      try clear hfzv22
      try clear hfzv23
      try clear hfzv24
      try clear hfzv25
      try clear hfzv26
      try clear hfzv27
      try clear hfz5_0
      try clear hfz5_1
      try clear hfz5_2
      try clear hfz5_3
      try clear hfz5_4
      try clear hxv3
      try clear pv4
      try clear p2
      try clear qv3
      obtain ⟨xv1, rfl, HA, HKv1, BK156, HB⟩ := hrel
      cases gk with
      | zero => exact absurd HA.out (by simp [lamplighterref15_Place.l1])
      | succ kv1 =>
       have H := HA.out
       clear HA
       simp only [lamplighterref15_Place.l1] at H
       by_cases cv9 : xv1 < (l1_4.length : Int)
       rw [if_pos cv9] at H
       have c27b0 : decide (xv1 < (l1_4.length : Int)) = true := decide_eq_true cv9
       clear cv9
       by_cases cv10 : 0 ≤ xv1
       rw [if_pos cv10] at H
       have c28b0 : decide (0 ≤ xv1) = true := decide_eq_true cv10
       clear cv10
       replace H := Option.bind_eq_some_iff.mp H
       obtain ⟨⟨tv1, tv2, tv3, tv4, tv5⟩, Av1, H⟩ := H
       try dsimp only at H
       have Av2 := Aside0.mk Av1
       clear Av1
       by_cases cv11 : tv5 = 0
       rw [if_pos cv11] at H
       have c30b0 : (tv5 == 0) = true := beq_iff_eq.mpr cv11
       have c30b1 : (tv5 != 0) = false := bne_eq_false_iff_eq.mpr cv11
       clear cv11
       by_cases cv12 : tv2.toList = a2.toList
       · rw [if_pos cv12] at H
         have c31b0 : (tv2.toList == a2.toList) = true := beq_iff_eq.mpr cv12
         have c31b1 : (tv2.toList != a2.toList) = false := bne_eq_false_iff_eq.mpr cv12
         clear cv12
         simp only [Option.some.injEq, Prod.mk.injEq] at H
         obtain ⟨rfl, rfl⟩ := H
         have hczv28 : wr.cell? ⟨gb156, 0, none⟩ = some (.int .i64 a1_0) := (blk_cell BK156.out 0).trans rfl
         have hczv29 : wr.cell? ⟨gb156, 1, none⟩ = some (.int .i64 a1_1) := (blk_cell BK156.out 1).trans rfl
         have hczv30 : wr.cell? ⟨gb156, 2, none⟩ = some (.int .i64 a1_2) := (blk_cell BK156.out 2).trans rfl
         have hczv31 : wr.cell? ⟨gb156, 3, none⟩ = some (.int .i64 a1_3) := (blk_cell BK156.out 3).trans rfl
         have hczv32 : wr.cell? ⟨gb156, 4, none⟩ = some (.slice A1_4 l1_4.length c1_4) := (blk_cell BK156.out 4).trans rfl
         have hfzv28 := blk_frozen BK156.out 0
         have hfzv29 := blk_frozen BK156.out 1
         have hfzv30 := blk_frozen BK156.out 2
         have hfzv31 := blk_frozen BK156.out 3
         have hfzv32 := blk_frozen BK156.out 4
         have pv5 : 0 ≤ (xv1 : Int) := of_decide_eq_true (by first | (with_reducible assumption) | assumption)
         have qv4 : xv1 < (l1_4.length : Int) := of_decide_eq_true (by first | (with_reducible assumption) | assumption)
         obtain ⟨adv1, ev1, hxv4⟩ := Kd.at_int HR1_4.out xv1 pv5 qv4
         cases ev1
         replace hxv4 := (HB.out.cell (World.block_lt_of_cell? w _ hxv4)).trans hxv4
         replace pv5 := eq_true pv5
         replace qv4 := eq_true qv4
         go_wp2_with (first | ((with_reducible refine gate_callee (f := 43) rfl ?_); refine goesL_ (some 59) rfl rfl Try.func43 (by kernel_rfl) rfl #[.slice A0 l0.length c0, .int .i64 (rd l1_4 xv1)] rfl (by (try simp only [List.map_toArray, List.map_cons, List.map_nil]); first | done | rfl | (simp only [List.length_drop, List.length_take]; rfl)) ?_; (with_reducible refine (lamplighterref07_Read.calls _ _ l0 (rd l1_4 xv1) tv1 tv2 tv3 tv4 tv5 _ ?side1 ?side2 Av2.out).mono ?_); (case side1 => repeat (first | exact (Kd.C_below HR0.out HB.out) | (with_reducible refine Kd.C_alloc ?_ _) | (with_reducible refine Kd.C_drewN ?_ _) | (with_reducible refine Kd.C_drew ?_))); (case side2 => exact HC0.out); rintro e wv1 ⟨rfl, hb⟩; refine ⟨_, rfl, ?_⟩; have n0_ := Aside0.mk (blk_below (g := gb156) (o := .cells #[.int .i64 a1_0, .int .i64 a1_1, .int .i64 a1_2, .int .i64 a1_3, .slice (some adv1) l1_4.length c1_4] 24 (0, 0)) (by (with_reducible repeat (first | refine blk_drewN ?_ _ | refine blk_drew ?_ | refine blk_alloc ?_ _)); exact BK156.out) hb); have n1_ := Aside0.mk (below_step (by repeat (first | (with_reducible first | exact HB.out | apply below_alloc | apply pw_below_drewN | apply below_drew1 | refine below_set ?_ GE156.out) | exact HB.out)) hb); clear BK156; clear HB; have BK156 := n0_; have HB := n1_; clear n0_ n1_; (try clear hb); (try clear hbv1); (try clear hk); (try clear hi)) | ((with_reducible refine gate_dst (N := 13) rfl ?_); refine box_event ?hg (N := 13) ?hd (cs := #[.int .i64 0, .string (⟨#[]⟩ : ByteArray), .string (⟨#[]⟩ : ByteArray), .int .i64 0]) (t := 62) ?hr ?_; (case hd => rfl); (case hg => rfl); (case hr => first | (go_simp; done) | (go_simp; rfl)); intro gbv1 hg wv2 hbox hb; have n0_ := Aside0.mk (blk_below (g := gb156) (o := .cells #[.int .i64 a1_0, .int .i64 a1_1, .int .i64 a1_2, .int .i64 a1_3, .slice (some adv1) l1_4.length c1_4] 24 (0, 0)) (by (with_reducible repeat (first | refine blk_drewN ?_ _ | refine blk_drew ?_ | refine blk_alloc ?_ _)); exact BK156.out) hb); have n1_ := Aside0.mk (below_step (by repeat (first | (with_reducible first | exact HB.out | apply below_alloc | apply pw_below_drewN | apply below_drew1 | refine below_set ?_ GE156.out) | exact HB.out)) hb); have n2_ := Aside0.mk (hbox); have n3_ := Aside0.mk ((by rw [hg]; exact (below_size (by repeat (first | (with_reducible first | exact HB.out | apply below_alloc | apply pw_below_drewN | apply below_drew1 | refine below_set ?_ GE156.out) | exact HB.out))) : w.heap.size ≤ gbv1)); have n4_ := Aside0.mk ((by rw [hg]; exact (below_size (by repeat (first | (with_reducible first | exact HB.out | apply below_alloc | apply pw_below_drewN | apply below_drew1 | refine below_set ?_ GE156.out) | exact HB.out))) : w.heap.size ≤ gbv1)); have n5_ := Aside0.mk ((by rw [hg]; exact Nat.ne_of_lt (blk_lt (g := gb156) (o := .cells #[.int .i64 a1_0, .int .i64 a1_1, .int .i64 a1_2, .int .i64 a1_3, .slice (some adv1) l1_4.length c1_4] 24 (0, 0)) (by (with_reducible repeat (first | refine blk_drewN ?_ _ | refine blk_drew ?_ | refine blk_alloc ?_ _)); exact BK156.out)) : gb156 ≠ gbv1)); have n6_ := Aside0.mk ((by rw [hg]; exact Nat.ne_of_gt (blk_lt (g := gb156) (o := .cells #[.int .i64 a1_0, .int .i64 a1_1, .int .i64 a1_2, .int .i64 a1_3, .slice (some adv1) l1_4.length c1_4] 24 (0, 0)) (by (with_reducible repeat (first | refine blk_drewN ?_ _ | refine blk_drew ?_ | refine blk_alloc ?_ _)); exact BK156.out)) : gbv1 ≠ gb156)); clear BK156; clear HB; have BK156 := n0_; have HB := n1_; have BKv1 := n2_; have GWv1 := n3_; have GEv1 := n4_; have NBv1 := n5_; have NBv2 := n6_; clear n0_ n1_ n2_ n3_ n4_ n5_ n6_; clear hb hbox hg; have hnbv1 := NBv2.out; have hncv1 := NBv1.out; have hczv33 : wv2.cell? ⟨gbv1, 0, none⟩ = some (.int .i64 0) := (blk_cell BKv1.out 0).trans rfl; have hczv34 : wv2.cell? ⟨gbv1, 1, none⟩ = some (.string (⟨#[]⟩ : ByteArray)) := (blk_cell BKv1.out 1).trans rfl; have hczv35 : wv2.cell? ⟨gbv1, 2, none⟩ = some (.string (⟨#[]⟩ : ByteArray)) := (blk_cell BKv1.out 2).trans rfl; have hczv36 : wv2.cell? ⟨gbv1, 3, none⟩ = some (.int .i64 0) := (blk_cell BKv1.out 3).trans rfl; have hfzv33 := blk_frozen BKv1.out 0; have hfzv34 := blk_frozen BKv1.out 1; have hfzv35 := blk_frozen BKv1.out 2; have hfzv36 := blk_frozen BKv1.out 3))
         go_ret2
         exact ⟨by first | rfl | (simp [errW_none, errW_some] <;> rfl) | (simp [*, errW_none, errW_some] <;> rfl), by repeat (first | (with_reducible first | exact HB.out | apply below_alloc | apply pw_below_drewN | apply below_drew1 | refine below_set ?_ GE156.out | refine below_set ?_ GEv1.out) | exact HB.out)⟩
       rw [if_neg cv12] at H
       have c31b0 : (tv2.toList == a2.toList) = false := beq_eq_false_iff_ne.mpr cv12
       have c31b1 : (tv2.toList != a2.toList) = true := bne_iff_ne.mpr cv12
       have hq0 := Aside0.mk True.intro
       rotate_left
       rw [if_neg cv11] at H
       have c30b0 : (tv5 == 0) = false := beq_eq_false_iff_ne.mpr cv11
       have c30b1 : (tv5 != 0) = true := bne_iff_ne.mpr cv11
       have hq0 := Aside0.mk True.intro
       rotate_left
       · rw [if_neg cv10] at H
         exact absurd H (by simp)
       · rw [if_neg cv9] at H
         have c27b0 : decide (xv1 < (l1_4.length : Int)) = false := decide_eq_false cv9
         clear cv9
         simp only [Option.some.injEq, Prod.mk.injEq] at H
         obtain ⟨rfl, rfl⟩ := H
         have hczv28 : wr.cell? ⟨gb156, 0, none⟩ = some (.int .i64 a1_0) := (blk_cell BK156.out 0).trans rfl
         have hczv29 : wr.cell? ⟨gb156, 1, none⟩ = some (.int .i64 a1_1) := (blk_cell BK156.out 1).trans rfl
         have hczv30 : wr.cell? ⟨gb156, 2, none⟩ = some (.int .i64 a1_2) := (blk_cell BK156.out 2).trans rfl
         have hczv31 : wr.cell? ⟨gb156, 3, none⟩ = some (.int .i64 a1_3) := (blk_cell BK156.out 3).trans rfl
         have hczv32 : wr.cell? ⟨gb156, 4, none⟩ = some (.slice A1_4 l1_4.length c1_4) := (blk_cell BK156.out 4).trans rfl
         have hfzv28 := blk_frozen BK156.out 0
         have hfzv29 := blk_frozen BK156.out 1
         have hfzv30 := blk_frozen BK156.out 2
         have hfzv31 := blk_frozen BK156.out 3
         have hfzv32 := blk_frozen BK156.out 4
         go_wp2
         go_ret2
         exact ⟨by first | rfl | (simp [errW_none, errW_some] <;> rfl) | (simp [*, errW_none, errW_some] <;> rfl), by repeat (first | (with_reducible first | exact HB.out | apply below_alloc | apply pw_below_drewN | apply below_drew1 | refine below_set ?_ GE156.out) | exact HB.out)⟩
       all_goals first
         | (clear hq0
            have H' := Aside0.mk H
            clear H
            have hczz1 : wr.cell? ⟨gb156, 0, none⟩ = some (.int .i64 a1_0) := (blk_cell BK156.out 0).trans rfl
            have hczz2 : wr.cell? ⟨gb156, 1, none⟩ = some (.int .i64 a1_1) := (blk_cell BK156.out 1).trans rfl
            have hczz3 : wr.cell? ⟨gb156, 2, none⟩ = some (.int .i64 a1_2) := (blk_cell BK156.out 2).trans rfl
            have hczz4 : wr.cell? ⟨gb156, 3, none⟩ = some (.int .i64 a1_3) := (blk_cell BK156.out 3).trans rfl
            have hczz5 : wr.cell? ⟨gb156, 4, none⟩ = some (.slice A1_4 l1_4.length c1_4) := (blk_cell BK156.out 4).trans rfl
            have hfzz1 := blk_frozen BK156.out 0
            have hfzz2 := blk_frozen BK156.out 1
            have hfzz3 := blk_frozen BK156.out 2
            have hfzz4 := blk_frozen BK156.out 3
            have hfzz5 := blk_frozen BK156.out 4
            have pz1 : 0 ≤ (xv1 : Int) := of_decide_eq_true (by first | (with_reducible assumption) | assumption)
            have qz1 : xv1 < (l1_4.length : Int) := of_decide_eq_true (by first | (with_reducible assumption) | assumption)
            obtain ⟨adz1, ez1, hxz1⟩ := Kd.at_int HR1_4.out xv1 pz1 qz1
            cases ez1
            replace hxz1 := (HB.out.cell (World.block_lt_of_cell? w _ hxz1)).trans hxz1
            replace pz1 := eq_true pz1
            replace qz1 := eq_true qz1
            go_wp2_with (first | ((with_reducible refine gate_callee (f := 43) rfl ?_); refine goesL_ (some 59) rfl rfl Try.func43 (by kernel_rfl) rfl #[.slice A0 l0.length c0, .int .i64 (rd l1_4 xv1)] rfl (by (try simp only [List.map_toArray, List.map_cons, List.map_nil]); first | done | rfl | (simp only [List.length_drop, List.length_take]; rfl)) ?_; (with_reducible refine (lamplighterref07_Read.calls _ _ l0 (rd l1_4 xv1) tv1 tv2 tv3 tv4 tv5 _ ?side1 ?side2 Av2.out).mono ?_); (case side1 => repeat (first | exact (Kd.C_below HR0.out HB.out) | (with_reducible refine Kd.C_alloc ?_ _) | (with_reducible refine Kd.C_drewN ?_ _) | (with_reducible refine Kd.C_drew ?_))); (case side2 => exact HC0.out); rintro e wz1 ⟨rfl, hb⟩; refine ⟨_, rfl, ?_⟩; have n0_ := Aside0.mk (blk_below (g := gb156) (o := .cells #[.int .i64 a1_0, .int .i64 a1_1, .int .i64 a1_2, .int .i64 a1_3, .slice (some adz1) l1_4.length c1_4] 24 (0, 0)) (by (with_reducible repeat (first | refine blk_drewN ?_ _ | refine blk_drew ?_ | refine blk_alloc ?_ _)); exact BK156.out) hb); have n1_ := Aside0.mk (below_step (by repeat (first | (with_reducible first | exact HB.out | apply below_alloc | apply pw_below_drewN | apply below_drew1 | refine below_set ?_ GE156.out) | exact HB.out)) hb); clear BK156; clear HB; have BK156 := n0_; have HB := n1_; clear n0_ n1_; (try clear hb); (try clear hbz1); (try clear hk); (try clear hi)) | ((with_reducible refine gate_dst (N := 13) rfl ?_); refine box_event ?hg (N := 13) ?hd (cs := #[.int .i64 0, .string (⟨#[]⟩ : ByteArray), .string (⟨#[]⟩ : ByteArray), .int .i64 0]) (t := 62) ?hr ?_; (case hd => rfl); (case hg => rfl); (case hr => first | (go_simp; done) | (go_simp; rfl)); intro gbz1 hg wz2 hbox hb; have n0_ := Aside0.mk (blk_below (g := gb156) (o := .cells #[.int .i64 a1_0, .int .i64 a1_1, .int .i64 a1_2, .int .i64 a1_3, .slice (some adz1) l1_4.length c1_4] 24 (0, 0)) (by (with_reducible repeat (first | refine blk_drewN ?_ _ | refine blk_drew ?_ | refine blk_alloc ?_ _)); exact BK156.out) hb); have n1_ := Aside0.mk (below_step (by repeat (first | (with_reducible first | exact HB.out | apply below_alloc | apply pw_below_drewN | apply below_drew1 | refine below_set ?_ GE156.out) | exact HB.out)) hb); have n2_ := Aside0.mk (hbox); have n3_ := Aside0.mk ((by rw [hg]; exact (below_size (by repeat (first | (with_reducible first | exact HB.out | apply below_alloc | apply pw_below_drewN | apply below_drew1 | refine below_set ?_ GE156.out) | exact HB.out))) : w.heap.size ≤ gbz1)); have n4_ := Aside0.mk ((by rw [hg]; exact (below_size (by repeat (first | (with_reducible first | exact HB.out | apply below_alloc | apply pw_below_drewN | apply below_drew1 | refine below_set ?_ GE156.out) | exact HB.out))) : w.heap.size ≤ gbz1)); have n5_ := Aside0.mk ((by rw [hg]; exact Nat.ne_of_lt (blk_lt (g := gb156) (o := .cells #[.int .i64 a1_0, .int .i64 a1_1, .int .i64 a1_2, .int .i64 a1_3, .slice (some adz1) l1_4.length c1_4] 24 (0, 0)) (by (with_reducible repeat (first | refine blk_drewN ?_ _ | refine blk_drew ?_ | refine blk_alloc ?_ _)); exact BK156.out)) : gb156 ≠ gbz1)); have n6_ := Aside0.mk ((by rw [hg]; exact Nat.ne_of_gt (blk_lt (g := gb156) (o := .cells #[.int .i64 a1_0, .int .i64 a1_1, .int .i64 a1_2, .int .i64 a1_3, .slice (some adz1) l1_4.length c1_4] 24 (0, 0)) (by (with_reducible repeat (first | refine blk_drewN ?_ _ | refine blk_drew ?_ | refine blk_alloc ?_ _)); exact BK156.out)) : gbz1 ≠ gb156)); clear BK156; clear HB; have BK156 := n0_; have HB := n1_; have BKz1 := n2_; have GWz1 := n3_; have GEz1 := n4_; have NBz1 := n5_; have NBz2 := n6_; clear n0_ n1_ n2_ n3_ n4_ n5_ n6_; clear hb hbox hg; have hnbz1 := NBz2.out; have hncz1 := NBz1.out; have hczz6 : wz2.cell? ⟨gbz1, 0, none⟩ = some (.int .i64 0) := (blk_cell BKz1.out 0).trans rfl; have hczz7 : wz2.cell? ⟨gbz1, 1, none⟩ = some (.string (⟨#[]⟩ : ByteArray)) := (blk_cell BKz1.out 1).trans rfl; have hczz8 : wz2.cell? ⟨gbz1, 2, none⟩ = some (.string (⟨#[]⟩ : ByteArray)) := (blk_cell BKz1.out 2).trans rfl; have hczz9 : wz2.cell? ⟨gbz1, 3, none⟩ = some (.int .i64 0) := (blk_cell BKz1.out 3).trans rfl; have hfzz6 := blk_frozen BKz1.out 0; have hfzz7 := blk_frozen BKz1.out 1; have hfzz8 := blk_frozen BKz1.out 2; have hfzz9 := blk_frozen BKz1.out 3))
            go_roundg kv1
            case measure => have := HK1.out; have := HKv1.out; omega
            case rel => exact ⟨(wrap64 (xv1 + 1)), (by first | rfl | (simp; done) | (simp [*]; done)), H', ⟨by have := HK1.out; have := HKv1.out; omega⟩, ⟨by (with_reducible repeat (first | refine blk_drewN ?_ _ | refine blk_drew ?_ | refine blk_alloc ?_ _)); refine blk_far ?_ NBz1.out _; (with_reducible repeat (first | refine blk_drewN ?_ _ | refine blk_drew ?_ | refine blk_alloc ?_ _)); refine blk_far ?_ NBz1.out _; (with_reducible repeat (first | refine blk_drewN ?_ _ | refine blk_drew ?_ | refine blk_alloc ?_ _)); refine blk_far ?_ NBz1.out _; (with_reducible repeat (first | refine blk_drewN ?_ _ | refine blk_drew ?_ | refine blk_alloc ?_ _)); refine blk_far ?_ NBz1.out _; (with_reducible repeat (first | refine blk_drewN ?_ _ | refine blk_drew ?_ | refine blk_alloc ?_ _)); exact BK156.out⟩, ⟨by repeat (first | (with_reducible first | exact HB.out | apply below_alloc | apply pw_below_drewN | apply below_drew1 | refine below_set ?_ GE156.out | refine below_set ?_ GEz1.out) | exact HB.out)⟩⟩)
   all_goals first
     | (clear hq0
        have H' := Aside0.mk H
        clear H
        have hczz1 : wr.cell? ⟨gb156, 0, none⟩ = some (.int .i64 a1_0) := (blk_cell BK156.out 0).trans rfl
        have hczz2 : wr.cell? ⟨gb156, 1, none⟩ = some (.int .i64 a1_1) := (blk_cell BK156.out 1).trans rfl
        have hczz3 : wr.cell? ⟨gb156, 2, none⟩ = some (.int .i64 a1_2) := (blk_cell BK156.out 2).trans rfl
        have hczz4 : wr.cell? ⟨gb156, 3, none⟩ = some (.int .i64 a1_3) := (blk_cell BK156.out 3).trans rfl
        have hczz5 : wr.cell? ⟨gb156, 4, none⟩ = some (.slice A1_4 l1_4.length c1_4) := (blk_cell BK156.out 4).trans rfl
        have hfzz1 := blk_frozen BK156.out 0
        have hfzz2 := blk_frozen BK156.out 1
        have hfzz3 := blk_frozen BK156.out 2
        have hfzz4 := blk_frozen BK156.out 3
        have hfzz5 := blk_frozen BK156.out 4
        have pz1 : 0 ≤ (x9_1 : Int) := of_decide_eq_true (by first | (with_reducible assumption) | assumption)
        have qz1 : x9_1 < (l1_4.length : Int) := of_decide_eq_true (by first | (with_reducible assumption) | assumption)
        obtain ⟨adz1, ez1, hxz1⟩ := Kd.at_int HR1_4.out x9_1 pz1 qz1
        cases ez1
        replace hxz1 := (HB.out.cell (World.block_lt_of_cell? w _ hxz1)).trans hxz1
        replace pz1 := eq_true pz1
        replace qz1 := eq_true qz1
        go_wp2_with (first | ((with_reducible refine gate_callee (f := 43) rfl ?_); refine goesL_ (some 33) rfl rfl Try.func43 (by kernel_rfl) rfl #[.slice A0 l0.length c0, .int .i64 (rd l1_4 x9_1)] rfl (by (try simp only [List.map_toArray, List.map_cons, List.map_nil]); first | done | rfl | (simp only [List.length_drop, List.length_take]; rfl)) ?_; (with_reducible refine (lamplighterref07_Read.calls _ _ l0 (rd l1_4 x9_1) tv1 tv2 tv3 tv4 tv5 _ ?side1 ?side2 Av2.out).mono ?_); (case side1 => repeat (first | exact (Kd.C_below HR0.out HB.out) | (with_reducible refine Kd.C_alloc ?_ _) | (with_reducible refine Kd.C_drewN ?_ _) | (with_reducible refine Kd.C_drew ?_))); (case side2 => exact HC0.out); rintro e wz1 ⟨rfl, hb⟩; refine ⟨_, rfl, ?_⟩; have n0_ := Aside0.mk (blk_below (g := gb156) (o := .cells #[.int .i64 a1_0, .int .i64 a1_1, .int .i64 a1_2, .int .i64 a1_3, .slice (some adz1) l1_4.length c1_4] 24 (0, 0)) (by (with_reducible repeat (first | refine blk_drewN ?_ _ | refine blk_drew ?_ | refine blk_alloc ?_ _)); exact BK156.out) hb); have n1_ := Aside0.mk (below_step (by repeat (first | (with_reducible first | exact HB.out | apply below_alloc | apply pw_below_drewN | apply below_drew1 | refine below_set ?_ GE156.out) | exact HB.out)) hb); clear BK156; clear HB; have BK156 := n0_; have HB := n1_; clear n0_ n1_; (try clear hb); (try clear hbz1); (try clear hk); (try clear hi)) | ((with_reducible refine gate_dst (N := 10) rfl ?_); refine box_event ?hg (N := 10) ?hd (cs := #[.int .i64 0, .string (⟨#[]⟩ : ByteArray), .string (⟨#[]⟩ : ByteArray), .int .i64 0]) (t := 62) ?hr ?_; (case hd => rfl); (case hg => rfl); (case hr => first | (go_simp; done) | (go_simp; rfl)); intro gbz1 hg wz2 hbox hb; have n0_ := Aside0.mk (blk_below (g := gb156) (o := .cells #[.int .i64 a1_0, .int .i64 a1_1, .int .i64 a1_2, .int .i64 a1_3, .slice (some adz1) l1_4.length c1_4] 24 (0, 0)) (by (with_reducible repeat (first | refine blk_drewN ?_ _ | refine blk_drew ?_ | refine blk_alloc ?_ _)); exact BK156.out) hb); have n1_ := Aside0.mk (below_step (by repeat (first | (with_reducible first | exact HB.out | apply below_alloc | apply pw_below_drewN | apply below_drew1 | refine below_set ?_ GE156.out) | exact HB.out)) hb); have n2_ := Aside0.mk (hbox); have n3_ := Aside0.mk ((by rw [hg]; exact (below_size (by repeat (first | (with_reducible first | exact HB.out | apply below_alloc | apply pw_below_drewN | apply below_drew1 | refine below_set ?_ GE156.out) | exact HB.out))) : w.heap.size ≤ gbz1)); have n4_ := Aside0.mk ((by rw [hg]; exact (below_size (by repeat (first | (with_reducible first | exact HB.out | apply below_alloc | apply pw_below_drewN | apply below_drew1 | refine below_set ?_ GE156.out) | exact HB.out))) : w.heap.size ≤ gbz1)); have n5_ := Aside0.mk ((by rw [hg]; exact Nat.ne_of_lt (blk_lt (g := gb156) (o := .cells #[.int .i64 a1_0, .int .i64 a1_1, .int .i64 a1_2, .int .i64 a1_3, .slice (some adz1) l1_4.length c1_4] 24 (0, 0)) (by (with_reducible repeat (first | refine blk_drewN ?_ _ | refine blk_drew ?_ | refine blk_alloc ?_ _)); exact BK156.out)) : gb156 ≠ gbz1)); have n6_ := Aside0.mk ((by rw [hg]; exact Nat.ne_of_gt (blk_lt (g := gb156) (o := .cells #[.int .i64 a1_0, .int .i64 a1_1, .int .i64 a1_2, .int .i64 a1_3, .slice (some adz1) l1_4.length c1_4] 24 (0, 0)) (by (with_reducible repeat (first | refine blk_drewN ?_ _ | refine blk_drew ?_ | refine blk_alloc ?_ _)); exact BK156.out)) : gbz1 ≠ gb156)); clear BK156; clear HB; have BK156 := n0_; have HB := n1_; have BKz1 := n2_; have GWz1 := n3_; have GEz1 := n4_; have NBz1 := n5_; have NBz2 := n6_; clear n0_ n1_ n2_ n3_ n4_ n5_ n6_; clear hb hbox hg; have hnbz1 := NBz2.out; have hncz1 := NBz1.out; have hczz6 : wz2.cell? ⟨gbz1, 0, none⟩ = some (.int .i64 0) := (blk_cell BKz1.out 0).trans rfl; have hczz7 : wz2.cell? ⟨gbz1, 1, none⟩ = some (.string (⟨#[]⟩ : ByteArray)) := (blk_cell BKz1.out 1).trans rfl; have hczz8 : wz2.cell? ⟨gbz1, 2, none⟩ = some (.string (⟨#[]⟩ : ByteArray)) := (blk_cell BKz1.out 2).trans rfl; have hczz9 : wz2.cell? ⟨gbz1, 3, none⟩ = some (.int .i64 0) := (blk_cell BKz1.out 3).trans rfl; have hfzz6 := blk_frozen BKz1.out 0; have hfzz7 := blk_frozen BKz1.out 1; have hfzz8 := blk_frozen BKz1.out 2; have hfzz9 := blk_frozen BKz1.out 3))
        go_roundg k1
        case measure => have := HK1.out; omega
        case rel => exact ⟨(x8_1), (wrap64 (x9_1 - 1)), (by first | rfl | (simp; done) | (simp [*]; done)), (by first | rfl | (simp; done) | (simp [*]; done)), H', ⟨by have := HK1.out; omega⟩, ⟨by (with_reducible repeat (first | refine blk_drewN ?_ _ | refine blk_drew ?_ | refine blk_alloc ?_ _)); refine blk_far ?_ NBz1.out _; (with_reducible repeat (first | refine blk_drewN ?_ _ | refine blk_drew ?_ | refine blk_alloc ?_ _)); refine blk_far ?_ NBz1.out _; (with_reducible repeat (first | refine blk_drewN ?_ _ | refine blk_drew ?_ | refine blk_alloc ?_ _)); refine blk_far ?_ NBz1.out _; (with_reducible repeat (first | refine blk_drewN ?_ _ | refine blk_drew ?_ | refine blk_alloc ?_ _)); refine blk_far ?_ NBz1.out _; (with_reducible repeat (first | refine blk_drewN ?_ _ | refine blk_drew ?_ | refine blk_alloc ?_ _)); exact BK156.out⟩, ⟨by repeat (first | (with_reducible first | exact HB.out | apply below_alloc | apply pw_below_drewN | apply below_drew1 | refine below_set ?_ GE156.out | refine below_set ?_ GEz1.out) | exact HB.out)⟩⟩)
/-! ### lamplighterlaw15_IndexTells: function 3 -/
def lamplighterlaw15_IndexTells.j0 : Nat → List Int → Int → ByteArray → Int → Bool → Bool → Int → Int → Int → Int → List Int → Option (Bool)
  | 0, _, _, _, _, _, _, _, _, _, _, _ => none
  | k + 1, x0, x1, x2, x3, x11, x38, x172000, x172001, x172002, x172003, x172004 => if x38 = true then (some x11) else ((index_Down.f x0 x1 x2 x3).bind fun bt173 => ((lamplighterref15_Down.f k x0 x1 x2 x3).bind fun bt175 => ((index_Find.f x0 x1 x2 x3).bind fun bt177 => ((lamplighterref15_Find.f k x0 x1 x2 x3).bind fun bt179 => ((index_Place.f x0 x172000 x172001 x172002 x172003 x172004 x2).bind fun bt181 => ((lamplighterref15_Place.f k x0 x172000 x172001 x172002 x172003 x172004 x2).bind fun bt183 => (if x11 = true then (if bt173.1 = bt175.1 then (if bt173.2 = bt175.2 then (if bt177.1 = bt179.1 then (if bt177.2 = bt179.2 then (if bt181.1 = bt183.1 then (some (bt181.2 == bt183.2)) else (none)) else (none)) else (none)) else (none)) else (none)) else (none))))))))
def lamplighterlaw15_IndexTells.f (k : Nat) (l0 : List Int) (a1 : Int) (a2 : ByteArray) (a3 : Int) (a4_0 : Int) (a4_1 : Int) (a4_2 : Int) (a4_3 : Int) (l4_4 : List Int) : Option (Bool) := (lamplighterlaw15_awake.f).bind fun t172 => (if (l0.length : Int) > 1000 then (lamplighterlaw15_IndexTells.j0 k l0 a1 a2 a3 t172 true a4_0 a4_1 a4_2 a4_3 l4_4) else (if (a2.size : Int) > 100 then (lamplighterlaw15_IndexTells.j0 k l0 a1 a2 a3 t172 true a4_0 a4_1 a4_2 a4_3 l4_4) else (lamplighterlaw15_IndexTells.j0 k l0 a1 a2 a3 t172 (decide ((l4_4.length : Int) > 100)) a4_0 a4_1 a4_2 a4_3 l4_4)))
theorem lamplighterlaw15_IndexTells.mono_l : ∀ k, (∀ y0 y1 y2 y3 y4 y5 y6 y7 y8 y9 y10, LeO (lamplighterlaw15_IndexTells.j0 k y0 y1 y2 y3 y4 y5 y6 y7 y8 y9 y10) (lamplighterlaw15_IndexTells.j0 (k + 1) y0 y1 y2 y3 y4 y5 y6 y7 y8 y9 y10))
  | 0 => fun _ _ _ _ _ _ _ _ _ _ _ r h => by simp [lamplighterlaw15_IndexTells.j0] at h
  | k + 1 => by
    have ih0 := lamplighterlaw15_IndexTells.mono_l k
    · intro y0 y1 y2 y3 y4 y5 y6 y7 y8 y9 y10
      unfold lamplighterlaw15_IndexTells.j0
      repeat' first
      | (with_reducible exact ih0 _ _ _ _ _ _ _ _ _ _ _)
      | (with_reducible exact lamplighterref15_Down.mono _ _ _ _ _)
      | (with_reducible exact lamplighterref15_Find.mono _ _ _ _ _)
      | (with_reducible exact lamplighterref15_Place.mono _ _ _ _ _ _ _ _)
      | (with_reducible exact LeO.refl _)
      | (with_reducible exact LeO.none _)
      | (with_reducible refine LeO.ite ?_ ?_)
      | (with_reducible refine LeO.bind ?_ (fun _ => ?_))
      | exact ih0 _ _ _ _ _ _ _ _ _ _ _
      | exact lamplighterref15_Down.mono _ _ _ _ _
      | exact lamplighterref15_Find.mono _ _ _ _ _
      | exact lamplighterref15_Place.mono _ _ _ _ _ _ _ _
      | exact LeO.none _
      | refine LeO.ite ?_ ?_
      | refine LeO.bind ?_ (fun _ => ?_)
theorem lamplighterlaw15_IndexTells.mono : ∀ a0 a1 a2 a3 a4 a5 a6 a7 a8 k, LeO (lamplighterlaw15_IndexTells.f k a0 a1 a2 a3 a4 a5 a6 a7 a8) (lamplighterlaw15_IndexTells.f (k + 1) a0 a1 a2 a3 a4 a5 a6 a7 a8) := by
 intro a0 a1 a2 a3 a4 a5 a6 a7 a8 k
 have ih0 := lamplighterlaw15_IndexTells.mono_l k
 unfold lamplighterlaw15_IndexTells.f
 repeat' first
     | (with_reducible exact ih0 _ _ _ _ _ _ _ _ _ _ _)
     | (with_reducible exact lamplighterref15_Down.mono _ _ _ _ _)
     | (with_reducible exact lamplighterref15_Find.mono _ _ _ _ _)
     | (with_reducible exact lamplighterref15_Place.mono _ _ _ _ _ _ _ _)
     | (with_reducible exact LeO.refl _)
     | (with_reducible exact LeO.none _)
     | (with_reducible refine LeO.ite ?_ ?_)
     | (with_reducible refine LeO.bind ?_ (fun _ => ?_))
     | exact ih0 _ _ _ _ _ _ _ _ _ _ _
     | exact lamplighterref15_Down.mono _ _ _ _ _
     | exact lamplighterref15_Find.mono _ _ _ _ _
     | exact lamplighterref15_Place.mono _ _ _ _ _ _ _ _
     | exact LeO.none _
     | refine LeO.ite ?_ ?_
     | refine LeO.bind ?_ (fun _ => ?_)
set_option maxHeartbeats 8000000 in
set_option maxRecDepth 100000 in
theorem lamplighterlaw15_IndexTells.calls (k : Nat) (A0 : Option Addr) (c0 : Nat) (l0 : List Int) (a1 : Int) (a2 : ByteArray) (a3 : Int) (a4_0 : Int) (a4_1 : Int) (a4_2 : Int) (a4_3 : Int) (A4_4 : Option Addr) (c4_4 : Nat) (l4_4 : List Int) (r : Bool) (w : World) (hr0 : Kd.C (Kd.int .i64) w A0 l0.length l0) (hc0 : l0.length ≤ c0) (hr4_4 : Kd.C (Kd.int .i64) w A4_4 l4_4.length l4_4) (hc4_4 : l4_4.length ≤ c4_4) (h : lamplighterlaw15_IndexTells.f k l0 a1 a2 a3 a4_0 a4_1 a4_2 a4_3 l4_4 = some r) :
    Calls Try.prog 3 #[.slice A0 l0.length c0, .int .i64 a1, .string a2, .int .i64 a3, .agg #[.int .i64 a4_0, .int .i64 a4_1, .int .i64 a4_2, .int .i64 a4_3, .slice A4_4 l4_4.length c4_4]] w fun e w' => e = .returned (.bool r) ∧ Below w.heap.size w w' := by
 have hu24 := Try.underlying24
 have HR0 := Aside0.mk hr0
 have HC0 := Aside0.mk hc0
 clear hr0 hc0
 have HR4_4 := Aside0.mk hr4_4
 have HC4_4 := Aside0.mk hc4_4
 clear hr4_4 hc4_4
 have HB := Aside0.mk (Below.refl w.heap.size w)
 have H : ((lamplighterlaw15_awake.f).bind fun t172 => (if (l0.length : Int) > 1000 then (lamplighterlaw15_IndexTells.j0 k l0 a1 a2 a3 t172 true a4_0 a4_1 a4_2 a4_3 l4_4) else (if (a2.size : Int) > 100 then (lamplighterlaw15_IndexTells.j0 k l0 a1 a2 a3 t172 true a4_0 a4_1 a4_2 a4_3 l4_4) else (lamplighterlaw15_IndexTells.j0 k l0 a1 a2 a3 t172 (decide ((l4_4.length : Int) > 100)) a4_0 a4_1 a4_2 a4_3 l4_4)))) = some r := h
 clear h
 replace H := Option.bind_eq_some_iff.mp H
 obtain ⟨t172, A60, H⟩ := H
 try dsimp only at H
 have A6 := Aside0.mk A60
 clear A60
 have HC7 := Aside0.mk H
 clear H
 go_enter Try.func3, Try.ntmps3
 go_upto_region 2 with (first | ((with_reducible refine gate_dst (N := 9) rfl ?_); (try (refine gate_guard (by rfl) ?_; dsimp only)); refine box_event ?hg (N := 9) ?hd (cs := #[.int .i64 a4_0, .int .i64 a4_1, .int .i64 a4_2, .int .i64 a4_3, .slice A4_4 l4_4.length c4_4]) (t := 24) ?hr ?_; (case hd => rfl); (case hg => rfl); (case hr => first | (go_simp; done) | (go_simp; rfl)); intro gb171 hg w8 hbox hb; have n0_ := Aside0.mk (below_step (by repeat (first | (with_reducible first | exact HB.out | apply below_alloc | apply pw_below_drewN | apply below_drew1) | exact HB.out)) hb); have n1_ := Aside0.mk (hbox); have n2_ := Aside0.mk ((by rw [hg]; exact (below_size (by repeat (first | (with_reducible first | exact HB.out | apply below_alloc | apply pw_below_drewN | apply below_drew1) | exact HB.out))) : w.heap.size ≤ gb171)); have n3_ := Aside0.mk ((by rw [hg]; exact (below_size (by repeat (first | (with_reducible first | exact HB.out | apply below_alloc | apply pw_below_drewN | apply below_drew1) | exact HB.out))) : w.heap.size ≤ gb171)); clear HB; have HB := n0_; have BK171 := n1_; have GW171 := n2_; have GE171 := n3_; clear n0_ n1_ n2_ n3_; clear hb hbox hg) | ((with_reducible refine gate_callee (f := 14) rfl ?_); refine goesL_ (some 24) rfl rfl Try.func14 (by kernel_rfl) rfl #[] rfl (by (try simp only [List.map_toArray, List.map_cons, List.map_nil]); first | done | rfl | (simp only [List.length_drop, List.length_take]; rfl)) ?_; (with_reducible refine (lamplighterlaw15_awake.calls  t172 _ A6.out).mono ?_); rintro e w9 ⟨rfl, hb⟩; refine ⟨_, rfl, ?_⟩; have n0_ := Aside0.mk (blk_below (g := gb171) (o := .cells #[.int .i64 a4_0, .int .i64 a4_1, .int .i64 a4_2, .int .i64 a4_3, .slice A4_4 l4_4.length c4_4] 24 (0, 0)) (by (with_reducible repeat (first | refine blk_drewN ?_ _ | refine blk_drew ?_ | refine blk_alloc ?_ _)); exact BK171.out) hb); have n1_ := Aside0.mk (below_step (by repeat (first | (with_reducible first | exact HB.out | apply below_alloc | apply pw_below_drewN | apply below_drew1 | refine below_set ?_ GE171.out) | exact HB.out)) hb); clear BK171; clear HB; have BK171 := n0_; have HB := n1_; clear n0_ n1_; (try clear hb); (try clear hb2); (try clear hk); (try clear hi)))
 (try simp only [Act.put, List.setIfInBounds_toArray, List.set_cons_zero, List.set_cons_succ])
 go_cut [38] (fun v38 wc => ∃ (kq : Nat) (x38_6 : Bool), v38 = .bool x38_6 ∧ Aside0 (lamplighterlaw15_IndexTells.j0 kq l0 a1 a2 a3 t172 x38_6 a4_0 a4_1 a4_2 a4_3 l4_4 = some r) ∧ Aside0 (kq ≤ k) ∧ Aside0 (wc.heap[gb171]? = some (.cells #[.int .i64 a4_0, .int .i64 a4_1, .int .i64 a4_2, .int .i64 a4_3, (.slice A4_4 l4_4.length c4_4)] 24 (0, 0))) ∧ Aside0 (Below w.heap.size w wc))
 case first =>
  have H := HC7.out
  clear HC7
  by_cases c10 : (l0.length : Int) > 1000
  rw [if_pos c10] at H
  have c10b0 : decide (1000 < (l0.length : Int)) = true := decide_eq_true c10
  have c10b1 : decide (1000 < l0.length) = true := decide_eq_true (by omega)
  clear c10
  (first | rw [c10b0] | (simp only [i64_w, i32_w]; rw [c10b0]) | skip)
  have hq0 := Aside0.mk True.intro
  rotate_left
  rw [if_neg c10] at H
  have c10b0 : decide (1000 < (l0.length : Int)) = false := decide_eq_false c10
  have c10b1 : decide (1000 < l0.length) = false := decide_eq_false (by omega)
  clear c10
  (first | rw [c10b0] | (simp only [i64_w, i32_w]; rw [c10b0]) | skip)
  by_cases cv1 : (a2.size : Int) > 100
  rw [if_pos cv1] at H
  have c11b0 : decide (100 < (a2.size : Int)) = true := decide_eq_true cv1
  have c11b1 : decide (100 < a2.size) = true := decide_eq_true (by omega)
  clear cv1
  have hq0 := Aside0.mk True.intro
  rotate_left
  · rw [if_neg cv1] at H
    have c11b0 : decide (100 < (a2.size : Int)) = false := decide_eq_false cv1
    have c11b1 : decide (100 < a2.size) = false := decide_eq_false (by omega)
    clear cv1
    have H' := Aside0.mk H
    clear H
    have hczv1 : w9.cell? ⟨gb171, 0, none⟩ = some (.int .i64 a4_0) := (blk_cell BK171.out 0).trans rfl
    have hczv2 : w9.cell? ⟨gb171, 1, none⟩ = some (.int .i64 a4_1) := (blk_cell BK171.out 1).trans rfl
    have hczv3 : w9.cell? ⟨gb171, 2, none⟩ = some (.int .i64 a4_2) := (blk_cell BK171.out 2).trans rfl
    have hczv4 : w9.cell? ⟨gb171, 3, none⟩ = some (.int .i64 a4_3) := (blk_cell BK171.out 3).trans rfl
    have hczv5 : w9.cell? ⟨gb171, 4, none⟩ = some (.slice A4_4 l4_4.length c4_4) := (blk_cell BK171.out 4).trans rfl
    have hfzv1 := blk_frozen BK171.out 0
    have hfzv2 := blk_frozen BK171.out 1
    have hfzv3 := blk_frozen BK171.out 2
    have hfzv4 := blk_frozen BK171.out 3
    have hfzv5 := blk_frozen BK171.out 4
    go_wp2
    go_meet
    case rel => exact ⟨_, (decide ((l4_4.length : Int) > 100)), (by first | rfl | (simp; done) | (simp [*]; done)), H', ⟨by first | omega | exact Nat.le_refl _⟩, ⟨by (with_reducible repeat (first | refine blk_drewN ?_ _ | refine blk_drew ?_ | refine blk_alloc ?_ _)); exact BK171.out⟩, ⟨by repeat (first | (with_reducible first | exact HB.out | apply below_alloc | apply pw_below_drewN | apply below_drew1 | refine below_set ?_ GE171.out) | exact HB.out)⟩⟩
  all_goals first
    | (clear hq0
       have H' := Aside0.mk H
       clear H
       go_wp2
       go_meet
       case rel => exact ⟨_, (true), (by first | rfl | (simp; done) | (simp [*]; done)), H', ⟨by first | omega | exact Nat.le_refl _⟩, ⟨by (with_reducible repeat (first | refine blk_drewN ?_ _ | refine blk_drew ?_ | refine blk_alloc ?_ _)); exact BK171.out⟩, ⟨by repeat (first | (with_reducible first | exact HB.out | apply below_alloc | apply pw_below_drewN | apply below_drew1 | refine below_set ?_ GE171.out) | exact HB.out)⟩⟩)
 case rest =>
  clear HC7
  try clear c1
  try clear p2
  try clear c3
  try clear c4
  try clear c10
  try clear c10b0
  try clear c10b1
  try clear c11
  try clear c11b0
  try clear c11b1
  try clear hcz12_0
  try clear hcz12_1
  try clear hcz12_2
  try clear hcz12_3
  try clear hcz12_4
  try clear hfz12_0
  try clear hfz12_1
  try clear hfz12_2
  try clear hfz12_3
  try clear hfz12_4
  obtain ⟨kq, x38_6, rfl, HA, HJ6, BK171, HB⟩ := hcut
  cases kq with
  | zero => exact absurd HA.out (by simp [lamplighterlaw15_IndexTells.j0])
  | succ kj6 =>
   have H := HA.out
   clear HA
   simp only [lamplighterlaw15_IndexTells.j0] at H
   by_cases c13 : x38_6 = true
   subst c13
   have Hv1 : (some t172) = some r := by rw [if_pos rfl] at H; exact H
   clear H
   have H := Hv1
   clear Hv1
   obtain rfl := Option.some.inj H
   focus go_wp2
   have hq0 := Aside0.mk True.intro
   rotate_left
   replace c13 := Bool.eq_false_iff.mpr c13
   subst c13
   have Hv1 : ((index_Down.f l0 a1 a2 a3).bind fun btv1 => ((lamplighterref15_Down.f kj6 l0 a1 a2 a3).bind fun btv2 => ((index_Find.f l0 a1 a2 a3).bind fun btv3 => ((lamplighterref15_Find.f kj6 l0 a1 a2 a3).bind fun btv4 => ((index_Place.f l0 a4_0 a4_1 a4_2 a4_3 l4_4 a2).bind fun btv5 => ((lamplighterref15_Place.f kj6 l0 a4_0 a4_1 a4_2 a4_3 l4_4 a2).bind fun btv6 => (if t172 = true then (if btv1.1 = btv2.1 then (if btv1.2 = btv2.2 then (if btv3.1 = btv4.1 then (if btv3.2 = btv4.2 then (if btv5.1 = btv6.1 then (some (btv5.2 == btv6.2)) else (none)) else (none)) else (none)) else (none)) else (none)) else (none)))))))) = some r := by rw [if_neg (show ¬ (false = true) by decide)] at H; exact H
   clear H
   have H := Hv1
   clear Hv1
   replace H := Option.bind_eq_some_iff.mp H
   obtain ⟨⟨tv1, tv2⟩, Av1, H⟩ := H
   try dsimp only at H
   have Av2 := Aside0.mk Av1
   clear Av1
   replace H := Option.bind_eq_some_iff.mp H
   obtain ⟨⟨tv3, tv4⟩, Av3, H⟩ := H
   try dsimp only at H
   have Av4 := Aside0.mk Av3
   clear Av3
   replace H := Option.bind_eq_some_iff.mp H
   obtain ⟨⟨tv5, tv6⟩, Av5, H⟩ := H
   try dsimp only at H
   have Av6 := Aside0.mk Av5
   clear Av5
   replace H := Option.bind_eq_some_iff.mp H
   obtain ⟨⟨tv7, tv8⟩, Av7, H⟩ := H
   try dsimp only at H
   have Av8 := Aside0.mk Av7
   clear Av7
   replace H := Option.bind_eq_some_iff.mp H
   obtain ⟨⟨tv9, tv10⟩, Av9, H⟩ := H
   try dsimp only at H
   have Av10 := Aside0.mk Av9
   clear Av9
   replace H := Option.bind_eq_some_iff.mp H
   obtain ⟨⟨tv11, tv12⟩, Av11, H⟩ := H
   try dsimp only at H
   have Av12 := Aside0.mk Av11
   clear Av11
   by_cases cv1 : t172 = true
   subst cv1
   have Hv1 : (if tv1 = tv3 then (if tv2 = tv4 then (if tv5 = tv7 then (if tv6 = tv8 then (if tv9 = tv11 then (some (tv10 == tv12)) else (none)) else (none)) else (none)) else (none)) else (none)) = some r := by rw [if_pos rfl] at H; exact H
   clear H
   have H := Hv1
   clear Hv1
   by_cases cv2 : tv1 = tv3
   rw [if_pos cv2] at H
   have c21b0 : (tv1 == tv3) = true := beq_iff_eq.mpr cv2
   have c21b1 : (tv1 != tv3) = false := bne_eq_false_iff_eq.mpr cv2
   clear cv2
   by_cases cv3 : tv2 = tv4
   rw [if_pos cv3] at H
   have c22b0 : (tv2 == tv4) = true := beq_iff_eq.mpr cv3
   have c22b1 : (tv2 != tv4) = false := bne_eq_false_iff_eq.mpr cv3
   clear cv3
   by_cases cv4 : tv5 = tv7
   rw [if_pos cv4] at H
   have c23b0 : (tv5 == tv7) = true := beq_iff_eq.mpr cv4
   have c23b1 : (tv5 != tv7) = false := bne_eq_false_iff_eq.mpr cv4
   clear cv4
   by_cases cv5 : tv6 = tv8
   rw [if_pos cv5] at H
   have c24b0 : (tv6 == tv8) = true := beq_iff_eq.mpr cv5
   have c24b1 : (tv6 != tv8) = false := bne_eq_false_iff_eq.mpr cv5
   clear cv5
   by_cases cv6 : tv9 = tv11
   rw [if_pos cv6] at H
   have c25b0 : (tv9 == tv11) = true := beq_iff_eq.mpr cv6
   have c25b1 : (tv9 != tv11) = false := bne_eq_false_iff_eq.mpr cv6
   clear cv6
   obtain rfl := Option.some.inj H
   focus go_wp2_with (first | ((with_reducible refine gate_callee (f := 15) rfl ?_); refine goesL_ (some 45) rfl rfl Try.func15 (by kernel_rfl) rfl #[.slice A0 l0.length c0, .int .i64 a1, .string a2, .int .i64 a3] rfl (by (try simp only [List.map_toArray, List.map_cons, List.map_nil]); first | done | rfl | (simp only [List.length_drop, List.length_take]; rfl)) ?_; (with_reducible refine (index_Down.calls _ _ l0 a1 a2 a3 tv1 tv2 _ ?side1 ?side2 Av2.out).mono ?_); (case side1 => repeat (first | exact (Kd.C_below HR0.out HB.out) | (with_reducible refine Kd.C_alloc ?_ _) | (with_reducible refine Kd.C_drewN ?_ _) | (with_reducible refine Kd.C_drew ?_))); (case side2 => exact HC0.out); rintro e wv1 ⟨rfl, hb⟩; refine ⟨_, rfl, ?_⟩; have n0_ := Aside0.mk (blk_below (g := gb171) (o := .cells #[.int .i64 a4_0, .int .i64 a4_1, .int .i64 a4_2, .int .i64 a4_3, .slice A4_4 l4_4.length c4_4] 24 (0, 0)) (by (with_reducible repeat (first | refine blk_drewN ?_ _ | refine blk_drew ?_ | refine blk_alloc ?_ _)); exact BK171.out) hb); have n1_ := Aside0.mk (below_step (by repeat (first | (with_reducible first | exact HB.out | apply below_alloc | apply pw_below_drewN | apply below_drew1 | refine below_set ?_ GE171.out) | exact HB.out)) hb); clear BK171; clear HB; have BK171 := n0_; have HB := n1_; clear n0_ n1_; (try clear hb); (try clear hb2); (try clear hk); (try clear hi)) | ((with_reducible refine gate_callee (f := 16) rfl ?_); refine goesL_ (some 53) rfl rfl Try.func16 (by kernel_rfl) rfl #[.slice A0 l0.length c0, .int .i64 a1, .string a2, .int .i64 a3] rfl (by (try simp only [List.map_toArray, List.map_cons, List.map_nil]); first | done | rfl | (simp only [List.length_drop, List.length_take]; rfl)) ?_; (with_reducible refine (lamplighterref15_Down.calls kj6 _ _ l0 a1 a2 a3 tv3 tv4 _ ?side1 ?side2 Av4.out).mono ?_); (case side1 => repeat (first | exact (Kd.C_below HR0.out HB.out) | (with_reducible refine Kd.C_alloc ?_ _) | (with_reducible refine Kd.C_drewN ?_ _) | (with_reducible refine Kd.C_drew ?_))); (case side2 => exact HC0.out); rintro e wv2 ⟨rfl, hb⟩; refine ⟨_, rfl, ?_⟩; have n0_ := Aside0.mk (blk_below (g := gb171) (o := .cells #[.int .i64 a4_0, .int .i64 a4_1, .int .i64 a4_2, .int .i64 a4_3, .slice A4_4 l4_4.length c4_4] 24 (0, 0)) (by (with_reducible repeat (first | refine blk_drewN ?_ _ | refine blk_drew ?_ | refine blk_alloc ?_ _)); exact BK171.out) hb); have n1_ := Aside0.mk (below_step (by repeat (first | (with_reducible first | exact HB.out | apply below_alloc | apply pw_below_drewN | apply below_drew1 | refine below_set ?_ GE171.out) | exact HB.out)) hb); clear BK171; clear HB; have BK171 := n0_; have HB := n1_; clear n0_ n1_; (try clear hb); (try clear hb2); (try clear hk); (try clear hi)) | ((with_reducible refine gate_callee (f := 17) rfl ?_); refine goesL_ (some 61) rfl rfl Try.func17 (by kernel_rfl) rfl #[.slice A0 l0.length c0, .int .i64 a1, .string a2, .int .i64 a3] rfl (by (try simp only [List.map_toArray, List.map_cons, List.map_nil]); first | done | rfl | (simp only [List.length_drop, List.length_take]; rfl)) ?_; (with_reducible refine (index_Find.calls _ _ l0 a1 a2 a3 tv5 tv6 _ ?side1 ?side2 Av6.out).mono ?_); (case side1 => repeat (first | exact (Kd.C_below HR0.out HB.out) | (with_reducible refine Kd.C_alloc ?_ _) | (with_reducible refine Kd.C_drewN ?_ _) | (with_reducible refine Kd.C_drew ?_))); (case side2 => exact HC0.out); rintro e wv3 ⟨rfl, hb⟩; refine ⟨_, rfl, ?_⟩; have n0_ := Aside0.mk (blk_below (g := gb171) (o := .cells #[.int .i64 a4_0, .int .i64 a4_1, .int .i64 a4_2, .int .i64 a4_3, .slice A4_4 l4_4.length c4_4] 24 (0, 0)) (by (with_reducible repeat (first | refine blk_drewN ?_ _ | refine blk_drew ?_ | refine blk_alloc ?_ _)); exact BK171.out) hb); have n1_ := Aside0.mk (below_step (by repeat (first | (with_reducible first | exact HB.out | apply below_alloc | apply pw_below_drewN | apply below_drew1 | refine below_set ?_ GE171.out) | exact HB.out)) hb); clear BK171; clear HB; have BK171 := n0_; have HB := n1_; clear n0_ n1_; (try clear hb); (try clear hb2); (try clear hk); (try clear hi)) | ((with_reducible refine gate_callee (f := 18) rfl ?_); refine goesL_ (some 69) rfl rfl Try.func18 (by kernel_rfl) rfl #[.slice A0 l0.length c0, .int .i64 a1, .string a2, .int .i64 a3] rfl (by (try simp only [List.map_toArray, List.map_cons, List.map_nil]); first | done | rfl | (simp only [List.length_drop, List.length_take]; rfl)) ?_; (with_reducible refine (lamplighterref15_Find.calls kj6 _ _ l0 a1 a2 a3 tv7 tv8 _ ?side1 ?side2 Av8.out).mono ?_); (case side1 => repeat (first | exact (Kd.C_below HR0.out HB.out) | (with_reducible refine Kd.C_alloc ?_ _) | (with_reducible refine Kd.C_drewN ?_ _) | (with_reducible refine Kd.C_drew ?_))); (case side2 => exact HC0.out); rintro e wv4 ⟨rfl, hb⟩; refine ⟨_, rfl, ?_⟩; have n0_ := Aside0.mk (blk_below (g := gb171) (o := .cells #[.int .i64 a4_0, .int .i64 a4_1, .int .i64 a4_2, .int .i64 a4_3, .slice A4_4 l4_4.length c4_4] 24 (0, 0)) (by (with_reducible repeat (first | refine blk_drewN ?_ _ | refine blk_drew ?_ | refine blk_alloc ?_ _)); exact BK171.out) hb); have n1_ := Aside0.mk (below_step (by repeat (first | (with_reducible first | exact HB.out | apply below_alloc | apply pw_below_drewN | apply below_drew1 | refine below_set ?_ GE171.out) | exact HB.out)) hb); clear BK171; clear HB; have BK171 := n0_; have HB := n1_; clear n0_ n1_; (try clear hb); (try clear hb2); (try clear hk); (try clear hi); have hczv1 : wv4.cell? ⟨gb171, 0, none⟩ = some (.int .i64 a4_0) := (blk_cell BK171.out 0).trans rfl; have hczv2 : wv4.cell? ⟨gb171, 1, none⟩ = some (.int .i64 a4_1) := (blk_cell BK171.out 1).trans rfl; have hczv3 : wv4.cell? ⟨gb171, 2, none⟩ = some (.int .i64 a4_2) := (blk_cell BK171.out 2).trans rfl; have hczv4 : wv4.cell? ⟨gb171, 3, none⟩ = some (.int .i64 a4_3) := (blk_cell BK171.out 3).trans rfl; have hczv5 : wv4.cell? ⟨gb171, 4, none⟩ = some (.slice A4_4 l4_4.length c4_4) := (blk_cell BK171.out 4).trans rfl; have hfzv1 := blk_frozen BK171.out 0; have hfzv2 := blk_frozen BK171.out 1; have hfzv3 := blk_frozen BK171.out 2; have hfzv4 := blk_frozen BK171.out 3; have hfzv5 := blk_frozen BK171.out 4) | ((with_reducible refine gate_callee (f := 19) rfl ?_); refine goesL_ (some 76) rfl rfl Try.func19 (by kernel_rfl) rfl #[.slice A0 l0.length c0, .agg #[.int .i64 a4_0, .int .i64 a4_1, .int .i64 a4_2, .int .i64 a4_3, .slice A4_4 l4_4.length c4_4], .string a2] rfl (by (try simp only [List.map_toArray, List.map_cons, List.map_nil]); first | done | rfl | (simp only [List.length_drop, List.length_take]; rfl)) ?_; (with_reducible refine (index_Place.calls _ _ l0 a4_0 a4_1 a4_2 a4_3 _ _ l4_4 a2 tv9 tv10 _ ?side1 ?side2 ?side3 ?side4 Av10.out).mono ?_); (case side1 => repeat (first | exact (Kd.C_below HR0.out HB.out) | (with_reducible refine Kd.C_alloc ?_ _) | (with_reducible refine Kd.C_drewN ?_ _) | (with_reducible refine Kd.C_drew ?_))); (case side2 => exact HC0.out); (case side3 => repeat (first | exact (Kd.C_below HR4_4.out HB.out) | (with_reducible refine Kd.C_alloc ?_ _) | (with_reducible refine Kd.C_drewN ?_ _) | (with_reducible refine Kd.C_drew ?_))); (case side4 => exact HC4_4.out); rintro e wv5 ⟨rfl, hb⟩; refine ⟨_, rfl, ?_⟩; have n0_ := Aside0.mk (blk_below (g := gb171) (o := .cells #[.int .i64 a4_0, .int .i64 a4_1, .int .i64 a4_2, .int .i64 a4_3, .slice A4_4 l4_4.length c4_4] 24 (0, 0)) (by (with_reducible repeat (first | refine blk_drewN ?_ _ | refine blk_drew ?_ | refine blk_alloc ?_ _)); exact BK171.out) hb); have n1_ := Aside0.mk (below_step (by repeat (first | (with_reducible first | exact HB.out | apply below_alloc | apply pw_below_drewN | apply below_drew1 | refine below_set ?_ GE171.out) | exact HB.out)) hb); clear BK171; clear HB; have BK171 := n0_; have HB := n1_; clear n0_ n1_; (try clear hb); (try clear hb2); (try clear hk); (try clear hi); have hczv6 : wv5.cell? ⟨gb171, 0, none⟩ = some (.int .i64 a4_0) := (blk_cell BK171.out 0).trans rfl; have hczv7 : wv5.cell? ⟨gb171, 1, none⟩ = some (.int .i64 a4_1) := (blk_cell BK171.out 1).trans rfl; have hczv8 : wv5.cell? ⟨gb171, 2, none⟩ = some (.int .i64 a4_2) := (blk_cell BK171.out 2).trans rfl; have hczv9 : wv5.cell? ⟨gb171, 3, none⟩ = some (.int .i64 a4_3) := (blk_cell BK171.out 3).trans rfl; have hczv10 : wv5.cell? ⟨gb171, 4, none⟩ = some (.slice A4_4 l4_4.length c4_4) := (blk_cell BK171.out 4).trans rfl; have hfzv6 := blk_frozen BK171.out 0; have hfzv7 := blk_frozen BK171.out 1; have hfzv8 := blk_frozen BK171.out 2; have hfzv9 := blk_frozen BK171.out 3; have hfzv10 := blk_frozen BK171.out 4) | ((with_reducible refine gate_callee (f := 20) rfl ?_); refine goesL_ (some 83) rfl rfl Try.func20 (by kernel_rfl) rfl #[.slice A0 l0.length c0, .agg #[.int .i64 a4_0, .int .i64 a4_1, .int .i64 a4_2, .int .i64 a4_3, .slice A4_4 l4_4.length c4_4], .string a2] rfl (by (try simp only [List.map_toArray, List.map_cons, List.map_nil]); first | done | rfl | (simp only [List.length_drop, List.length_take]; rfl)) ?_; (with_reducible refine (lamplighterref15_Place.calls kj6 _ _ l0 a4_0 a4_1 a4_2 a4_3 _ _ l4_4 a2 tv11 tv12 _ ?side1 ?side2 ?side3 ?side4 Av12.out).mono ?_); (case side1 => repeat (first | exact (Kd.C_below HR0.out HB.out) | (with_reducible refine Kd.C_alloc ?_ _) | (with_reducible refine Kd.C_drewN ?_ _) | (with_reducible refine Kd.C_drew ?_))); (case side2 => exact HC0.out); (case side3 => repeat (first | exact (Kd.C_below HR4_4.out HB.out) | (with_reducible refine Kd.C_alloc ?_ _) | (with_reducible refine Kd.C_drewN ?_ _) | (with_reducible refine Kd.C_drew ?_))); (case side4 => exact HC4_4.out); rintro e wv6 ⟨rfl, hb⟩; refine ⟨_, rfl, ?_⟩; have n0_ := Aside0.mk (blk_below (g := gb171) (o := .cells #[.int .i64 a4_0, .int .i64 a4_1, .int .i64 a4_2, .int .i64 a4_3, .slice A4_4 l4_4.length c4_4] 24 (0, 0)) (by (with_reducible repeat (first | refine blk_drewN ?_ _ | refine blk_drew ?_ | refine blk_alloc ?_ _)); exact BK171.out) hb); have n1_ := Aside0.mk (below_step (by repeat (first | (with_reducible first | exact HB.out | apply below_alloc | apply pw_below_drewN | apply below_drew1 | refine below_set ?_ GE171.out) | exact HB.out)) hb); clear BK171; clear HB; have BK171 := n0_; have HB := n1_; clear n0_ n1_; (try clear hb); (try clear hb2); (try clear hk); (try clear hi)))
   have hq0 := Aside0.mk True.intro
   rotate_left
   · rw [if_neg cv6] at H
     exact absurd H (by simp)
   · rw [if_neg cv5] at H
     exact absurd H (by simp)
   · rw [if_neg cv4] at H
     exact absurd H (by simp)
   · rw [if_neg cv3] at H
     exact absurd H (by simp)
   · rw [if_neg cv2] at H
     exact absurd H (by simp)
   · replace cv1 := Bool.eq_false_iff.mpr cv1
     subst cv1
     have Hv1 : (none) = some r := by rw [if_neg (show ¬ (false = true) by decide)] at H; exact H
     clear H
     have H := Hv1
     clear Hv1
     exact absurd H (by simp)
   all_goals first
     | (clear hq0
        go_ret
        exact ⟨by first | rfl | (simp [errW_none, errW_some] <;> rfl) | (simp [*, errW_none, errW_some] <;> rfl), by repeat (first | (with_reducible first | exact HB.out | apply below_alloc | apply pw_below_drewN | apply below_drew1 | refine below_set ?_ GE171.out) | exact HB.out)⟩)
end
end Go.Proofs.Ytliaemoomhfcdaa.IT
