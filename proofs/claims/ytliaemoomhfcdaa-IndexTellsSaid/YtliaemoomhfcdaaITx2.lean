/- Written by this session's own program (hprint.py) with the help of the kit's print. Lean checks it. -/
import Derived.Test.YtliaemoomhfcdaaMX
import Derived.Test.YtliaemoomhfcdaaITx0
import Derived.Test.YtliaemoomhfcdaaITx1
import Derived.Test.YtliaemoomhfcdaaGivenRF
import Derived.Test.YtliaemoomhfcdaaMA
import Derived.Test.YtliaemoomhfcdaaMD
namespace Go.Proofs.Ytliaemoomhfcdaa.IT
attribute [local go_sem] Go.Proofs.Ytliaemoomhfcdaa.le_flip
open Go.Proofs.Ytliaemoomhfcdaa.AW Go.Proofs.Ytliaemoomhfcdaa.RF   -- OPENED
open Go.RowKit Go.Proofs.YtliaemoomhfcdaaW.PrintWords Go.Proofs.YtliaemoomhfcdaaW.PrintLast Go.Proofs.YtliaemoomhfcdaaW.PrintMore
attribute [local go_sem] max2_int min2_int max_two min_two max_three min_three max_four min_four   -- for this text's walks alone
set_option linter.unusedVariables false
set_option linter.unusedSimpArgs false
noncomputable section

/-! ### lamplighterref15_Down: function 16 -/
mutual
def lamplighterref15_Down.j0 : Nat → List Int → Int → ByteArray → Int → Bool → Int → Int → Int → Int → List Int → Option (Int × Int)
  | 0, _, _, _, _, _, _, _, _, _, _ => none
  | k + 1, x0, x1, x2, x3, x37, x125000, x125001, x125002, x125003, x125004 => if x37 = true then (some (0, 90)) else (if x125002 = 0 then (lamplighterref15_Down.j2 k x0 x1 x2 x3 x125000 x125001 x125002 x125003 x125004) else ((lamplighterref09_Read.f x0 x125002).bind fun bt125 => ((lamplighterref11_Low.f x0 x125002).bind fun bt134 => (if x125002 = x1 then (lamplighterref15_Down.j1 k x0 x1 x2 x3 bt134.1 true x125000 x125001 x125002 x125003 x125004) else (if bt125.2.2.2.2.2 = 0 then (if bt125.1 = x125000 then (lamplighterref15_Down.j1 k x0 x1 x2 x3 bt134.1 (bt134.2 != 0) x125000 x125001 x125002 x125003 x125004) else (lamplighterref15_Down.j1 k x0 x1 x2 x3 bt134.1 true x125000 x125001 x125002 x125003 x125004)) else (lamplighterref15_Down.j1 k x0 x1 x2 x3 bt134.1 true x125000 x125001 x125002 x125003 x125004))))))
def lamplighterref15_Down.j2 : Nat → List Int → Int → ByteArray → Int → Int → Int → Int → Int → List Int → Option (Int × Int)
  | 0, _, _, _, _, _, _, _, _, _ => none
  | k + 1, x0, x1, x2, x3, x125000, x125001, x125002, x125003, x125004 => if x125000 = x3 then (some (x1, 0)) else (lamplighterref15_Down.l0 k x0 x2 0 0 x125000 x125001 x125002 x125003 x125004)
def lamplighterref15_Down.l0 : Nat → List Int → ByteArray → Int → Int → Int → Int → Int → Int → List Int → Option (Int × Int)
  | 0, _, _, _, _, _, _, _, _, _ => none
  | k + 1, x0, x2, x16, x17, x125000, x125001, x125002, x125003, x125004 => if x17 < (x125004.length : Int) then (if 0 ≤ x17 then ((lamplighterref07_Read.f x0 (rd x125004 x17)).bind fun bt137 => (if bt137.2.2.2.2 = 0 then (if bt137.1 = 2 then (if ((Op.bytesLess x2.toList bt137.2.1.toList) = true) then (lamplighterref15_Down.l0 k x0 x2 x16 (wrap64 (x17 + 1)) x125000 x125001 x125002 x125003 x125004) else (lamplighterref15_Down.l0 k x0 x2 bt137.2.2.2.1 (wrap64 (x17 + 1)) x125000 x125001 x125002 x125003 x125004)) else (lamplighterref15_Down.l0 k x0 x2 x16 (wrap64 (x17 + 1)) x125000 x125001 x125002 x125003 x125004)) else (lamplighterref15_Down.l0 k x0 x2 x16 (wrap64 (x17 + 1)) x125000 x125001 x125002 x125003 x125004))) else (none)) else ((lamplighterref09_Read.f x0 x16).bind fun bt143 => ((lamplighterref11_Low.f x0 x16).bind fun bt152 => (if x16 = 0 then (some (0, 90)) else (if bt143.2.2.2.2.2 = 0 then (if bt143.1 = (wrap64 (x125000 - 1)) then (if bt152.2 = 0 then (if (Op.bytesLess x2.toList bt152.1.toList) = true then (some (0, 90)) else (some (x16, 0))) else (some (0, 90))) else (some (0, 90))) else (some (0, 90))))))
def lamplighterref15_Down.j1 : Nat → List Int → Int → ByteArray → Int → ByteArray → Bool → Int → Int → Int → Int → List Int → Option (Int × Int)
  | 0, _, _, _, _, _, _, _, _, _, _, _ => none
  | k + 1, x0, x1, x2, x3, x14, x73, x125000, x125001, x125002, x125003, x125004 => if x73 = true then (some (0, 90)) else (if ((Op.bytesLess x2.toList x14.toList) = true) then (lamplighterref15_Down.j2 k x0 x1 x2 x3 x125000 x125001 x125002 x125003 x125004) else (some (x125002, 0)))
end
def lamplighterref15_Down.f (k : Nat) (l0 : List Int) (a1 : Int) (a2 : ByteArray) (a3 : Int) : Option (Int × Int) := (lamplighterref09_Read.f l0 a1).bind fun bt116 => (if bt116.2.2.2.2.2 = 0 then (lamplighterref15_Down.j0 k l0 a1 a2 a3 (decide (bt116.1 < a3)) bt116.1 bt116.2.1 bt116.2.2.1 bt116.2.2.2.1 bt116.2.2.2.2.1) else (lamplighterref15_Down.j0 k l0 a1 a2 a3 true bt116.1 bt116.2.1 bt116.2.2.1 bt116.2.2.2.1 bt116.2.2.2.2.1))
theorem lamplighterref15_Down.mono_l : ∀ k, (∀ y0 y1 y2 y3 y4 y5 y6 y7 y8 y9, LeO (lamplighterref15_Down.j0 k y0 y1 y2 y3 y4 y5 y6 y7 y8 y9) (lamplighterref15_Down.j0 (k + 1) y0 y1 y2 y3 y4 y5 y6 y7 y8 y9)) ∧ (∀ y0 y1 y2 y3 y4 y5 y6 y7 y8, LeO (lamplighterref15_Down.j2 k y0 y1 y2 y3 y4 y5 y6 y7 y8) (lamplighterref15_Down.j2 (k + 1) y0 y1 y2 y3 y4 y5 y6 y7 y8)) ∧ (∀ y0 y1 y2 y3 y4 y5 y6 y7 y8, LeO (lamplighterref15_Down.l0 k y0 y1 y2 y3 y4 y5 y6 y7 y8) (lamplighterref15_Down.l0 (k + 1) y0 y1 y2 y3 y4 y5 y6 y7 y8)) ∧ (∀ y0 y1 y2 y3 y4 y5 y6 y7 y8 y9 y10, LeO (lamplighterref15_Down.j1 k y0 y1 y2 y3 y4 y5 y6 y7 y8 y9 y10) (lamplighterref15_Down.j1 (k + 1) y0 y1 y2 y3 y4 y5 y6 y7 y8 y9 y10))
  | 0 => ⟨fun _ _ _ _ _ _ _ _ _ _ r h => by simp [lamplighterref15_Down.j0] at h, fun _ _ _ _ _ _ _ _ _ r h => by simp [lamplighterref15_Down.j2] at h, fun _ _ _ _ _ _ _ _ _ r h => by simp [lamplighterref15_Down.l0] at h, fun _ _ _ _ _ _ _ _ _ _ _ r h => by simp [lamplighterref15_Down.j1] at h⟩
  | k + 1 => by
    obtain ⟨ih0, ih1, ih2, ih3⟩ := lamplighterref15_Down.mono_l k
    refine ⟨?_, ?_, ?_, ?_⟩
    · intro y0 y1 y2 y3 y4 y5 y6 y7 y8 y9
      unfold lamplighterref15_Down.j0
      repeat' first
      | (with_reducible exact ih0 _ _ _ _ _ _ _ _ _ _)
      | (with_reducible exact ih1 _ _ _ _ _ _ _ _ _)
      | (with_reducible exact ih2 _ _ _ _ _ _ _ _ _)
      | (with_reducible exact ih3 _ _ _ _ _ _ _ _ _ _ _)
      | (with_reducible exact LeO.refl _)
      | (with_reducible exact LeO.none _)
      | (with_reducible refine LeO.ite ?_ ?_)
      | (with_reducible refine LeO.bind ?_ (fun _ => ?_))
      | exact ih0 _ _ _ _ _ _ _ _ _ _
      | exact ih1 _ _ _ _ _ _ _ _ _
      | exact ih2 _ _ _ _ _ _ _ _ _
      | exact ih3 _ _ _ _ _ _ _ _ _ _ _
      | exact LeO.none _
      | refine LeO.ite ?_ ?_
      | refine LeO.bind ?_ (fun _ => ?_)
    · intro y0 y1 y2 y3 y4 y5 y6 y7 y8
      unfold lamplighterref15_Down.j2
      repeat' first
      | (with_reducible exact ih0 _ _ _ _ _ _ _ _ _ _)
      | (with_reducible exact ih1 _ _ _ _ _ _ _ _ _)
      | (with_reducible exact ih2 _ _ _ _ _ _ _ _ _)
      | (with_reducible exact ih3 _ _ _ _ _ _ _ _ _ _ _)
      | (with_reducible exact LeO.refl _)
      | (with_reducible exact LeO.none _)
      | (with_reducible refine LeO.ite ?_ ?_)
      | (with_reducible refine LeO.bind ?_ (fun _ => ?_))
      | exact ih0 _ _ _ _ _ _ _ _ _ _
      | exact ih1 _ _ _ _ _ _ _ _ _
      | exact ih2 _ _ _ _ _ _ _ _ _
      | exact ih3 _ _ _ _ _ _ _ _ _ _ _
      | exact LeO.none _
      | refine LeO.ite ?_ ?_
      | refine LeO.bind ?_ (fun _ => ?_)
    · intro y0 y1 y2 y3 y4 y5 y6 y7 y8
      unfold lamplighterref15_Down.l0
      repeat' first
      | (with_reducible exact ih0 _ _ _ _ _ _ _ _ _ _)
      | (with_reducible exact ih1 _ _ _ _ _ _ _ _ _)
      | (with_reducible exact ih2 _ _ _ _ _ _ _ _ _)
      | (with_reducible exact ih3 _ _ _ _ _ _ _ _ _ _ _)
      | (with_reducible exact LeO.refl _)
      | (with_reducible exact LeO.none _)
      | (with_reducible refine LeO.ite ?_ ?_)
      | (with_reducible refine LeO.bind ?_ (fun _ => ?_))
      | exact ih0 _ _ _ _ _ _ _ _ _ _
      | exact ih1 _ _ _ _ _ _ _ _ _
      | exact ih2 _ _ _ _ _ _ _ _ _
      | exact ih3 _ _ _ _ _ _ _ _ _ _ _
      | exact LeO.none _
      | refine LeO.ite ?_ ?_
      | refine LeO.bind ?_ (fun _ => ?_)
    · intro y0 y1 y2 y3 y4 y5 y6 y7 y8 y9 y10
      unfold lamplighterref15_Down.j1
      repeat' first
      | (with_reducible exact ih0 _ _ _ _ _ _ _ _ _ _)
      | (with_reducible exact ih1 _ _ _ _ _ _ _ _ _)
      | (with_reducible exact ih2 _ _ _ _ _ _ _ _ _)
      | (with_reducible exact ih3 _ _ _ _ _ _ _ _ _ _ _)
      | (with_reducible exact LeO.refl _)
      | (with_reducible exact LeO.none _)
      | (with_reducible refine LeO.ite ?_ ?_)
      | (with_reducible refine LeO.bind ?_ (fun _ => ?_))
      | exact ih0 _ _ _ _ _ _ _ _ _ _
      | exact ih1 _ _ _ _ _ _ _ _ _
      | exact ih2 _ _ _ _ _ _ _ _ _
      | exact ih3 _ _ _ _ _ _ _ _ _ _ _
      | exact LeO.none _
      | refine LeO.ite ?_ ?_
      | refine LeO.bind ?_ (fun _ => ?_)
theorem lamplighterref15_Down.mono : ∀ a0 a1 a2 a3 k, LeO (lamplighterref15_Down.f k a0 a1 a2 a3) (lamplighterref15_Down.f (k + 1) a0 a1 a2 a3) := by
 intro a0 a1 a2 a3 k
 obtain ⟨ih0, ih1, ih2, ih3⟩ := lamplighterref15_Down.mono_l k
 unfold lamplighterref15_Down.f
 repeat' first
     | (with_reducible exact ih0 _ _ _ _ _ _ _ _ _ _)
     | (with_reducible exact ih1 _ _ _ _ _ _ _ _ _)
     | (with_reducible exact ih2 _ _ _ _ _ _ _ _ _)
     | (with_reducible exact ih3 _ _ _ _ _ _ _ _ _ _ _)
     | (with_reducible exact LeO.refl _)
     | (with_reducible exact LeO.none _)
     | (with_reducible refine LeO.ite ?_ ?_)
     | (with_reducible refine LeO.bind ?_ (fun _ => ?_))
     | exact ih0 _ _ _ _ _ _ _ _ _ _
     | exact ih1 _ _ _ _ _ _ _ _ _
     | exact ih2 _ _ _ _ _ _ _ _ _
     | exact ih3 _ _ _ _ _ _ _ _ _ _ _
     | exact LeO.none _
     | refine LeO.ite ?_ ?_
     | refine LeO.bind ?_ (fun _ => ?_)
set_option maxHeartbeats 8000000 in
set_option maxRecDepth 100000 in
theorem lamplighterref15_Down.calls (k : Nat) (A0 : Option Addr) (c0 : Nat) (l0 : List Int) (a1 : Int) (a2 : ByteArray) (a3 : Int) (r1 : Int) (r2 : Int) (w : World) (hr0 : Kd.C (Kd.int .i64) w A0 l0.length l0) (hc0 : l0.length ≤ c0) (h : lamplighterref15_Down.f k l0 a1 a2 a3 = some (r1, r2)) :
    Calls Try.prog 16 #[.slice A0 l0.length c0, .int .i64 a1, .string a2, .int .i64 a3] w fun e w' => e = .returned (.tuple #[.int .i64 r1, .int .i64 r2]) ∧ Below w.heap.size w w' := by
 have hu24 := Try.underlying24
 have hu62 := Try.underlying62
 have HR0 := Aside0.mk hr0
 have HC0 := Aside0.mk hc0
 clear hr0 hc0
 have HB := Aside0.mk (Below.refl w.heap.size w)
 have H : ((lamplighterref09_Read.f l0 a1).bind fun bt116 => (if bt116.2.2.2.2.2 = 0 then (lamplighterref15_Down.j0 k l0 a1 a2 a3 (decide (bt116.1 < a3)) bt116.1 bt116.2.1 bt116.2.2.1 bt116.2.2.2.1 bt116.2.2.2.2.1) else (lamplighterref15_Down.j0 k l0 a1 a2 a3 true bt116.1 bt116.2.1 bt116.2.2.1 bt116.2.2.2.1 bt116.2.2.2.2.1))) = some (r1, r2) := h
 clear h
 replace H := Option.bind_eq_some_iff.mp H
 obtain ⟨⟨t116, t117, t118, t119, t120, t123⟩, A50, H⟩ := H
 try dsimp only at H
 have A5 := Aside0.mk A50
 clear A50
 have HC6 := Aside0.mk H
 clear H
 go_enter Try.func16, Try.ntmps16
 go_upto_region 2 with (first | ((with_reducible refine gate_callee (f := 41) rfl ?_); refine goesL_ (some 27) rfl rfl Try.func41 (by kernel_rfl) rfl #[.slice A0 l0.length c0, .int .i64 a1] rfl (by (try simp only [List.map_toArray, List.map_cons, List.map_nil]); first | done | rfl | (simp only [List.length_drop, List.length_take]; rfl)) ?_; (with_reducible refine (lamplighterref09_Read.calls _ _ l0 a1 t116 t117 t118 t119 t120 t123 _ ?side1 ?side2 A5.out).mono ?_); (case side1 => repeat (first | exact HR0.out | (with_reducible refine Kd.C_alloc ?_ _) | (with_reducible refine Kd.C_drewN ?_ _) | (with_reducible refine Kd.C_drew ?_))); (case side2 => exact HC0.out); rintro e w7 ⟨v121, rfl, ho0, hb⟩; refine ⟨_, rfl, ?_⟩; have n0_ := Aside0.mk (Kd.R_lower ho0 (below_size (by repeat (first | (with_reducible first | exact HB.out | apply below_alloc | apply pw_below_drewN | apply below_drew1) | exact HB.out)))); have n1_ := Aside0.mk (below_step (by repeat (first | (with_reducible first | exact HB.out | apply below_alloc | apply pw_below_drewN | apply below_drew1) | exact HB.out)) hb); clear HB; have HO122 := n0_; have HB := n1_; clear n0_ n1_; (try clear hb); (try clear hb2); (try clear hk); (try clear hi); (try clear ho0)) | ((with_reducible refine gate_dst (N := 10) rfl ?_); refine box_event ?hg (N := 10) ?hd (cs := #[.int .i64 0, .int .i64 0, .int .i64 0, .int .i64 0, .slice none 0 0]) (t := 24) ?hr ?_; (case hd => rfl); (case hg => rfl); (case hr => first | (go_simp; done) | (go_simp; rfl)); intro gb124 hg w8 hbox hb; have n0_ := Aside0.mk (Kd.R_below (by (with_reducible repeat (first | apply Kd.R_alloc | apply Kd.R_drewN | apply Kd.R_drew)); exact HO122.out) hb); have n1_ := Aside0.mk (below_step (by repeat (first | (with_reducible first | exact HB.out | apply below_alloc | apply pw_below_drewN | apply below_drew1) | exact HB.out)) hb); have n2_ := Aside0.mk (hbox); have n3_ := Aside0.mk ((by rw [hg]; exact (below_size (by repeat (first | (with_reducible first | exact HB.out | apply below_alloc | apply pw_below_drewN | apply below_drew1) | exact HB.out))) : w.heap.size ≤ gb124)); have n4_ := Aside0.mk ((by rw [hg]; exact (below_size (by repeat (first | (with_reducible first | exact HB.out | apply below_alloc | apply pw_below_drewN | apply below_drew1) | exact HB.out))) : w.heap.size ≤ gb124)); clear HO122; clear HB; have HO122 := n0_; have HB := n1_; have BK124 := n2_; have GW124 := n3_; have GE124 := n4_; clear n0_ n1_ n2_ n3_ n4_; clear hb hbox hg; have hcz9_0 : w8.cell? ⟨gb124, 0, none⟩ = some (.int .i64 0) := (blk_cell BK124.out 0).trans rfl; have hcz9_1 : w8.cell? ⟨gb124, 1, none⟩ = some (.int .i64 0) := (blk_cell BK124.out 1).trans rfl; have hcz9_2 : w8.cell? ⟨gb124, 2, none⟩ = some (.int .i64 0) := (blk_cell BK124.out 2).trans rfl; have hcz9_3 : w8.cell? ⟨gb124, 3, none⟩ = some (.int .i64 0) := (blk_cell BK124.out 3).trans rfl; have hcz9_4 : w8.cell? ⟨gb124, 4, none⟩ = some (.slice none 0 0) := (blk_cell BK124.out 4).trans rfl; have hfz9_0 := blk_frozen BK124.out 0; have hfz9_1 := blk_frozen BK124.out 1; have hfz9_2 := blk_frozen BK124.out 2; have hfz9_3 := blk_frozen BK124.out 3; have hfz9_4 := blk_frozen BK124.out 4; obtain ⟨Ao10, co10, eo10⟩ := Kd.R_slice HO122.out; subst eo10))
 (try simp only [Act.put, List.setIfInBounds_toArray, List.set_cons_zero, List.set_cons_succ])
 go_cut [37] (fun v37 wc => ∃ (kq : Nat) (x37_5 : Bool), v37 = .bool x37_5 ∧ Aside0 (lamplighterref15_Down.j0 kq l0 a1 a2 a3 x37_5 t116 t117 t118 t119 t120 = some (r1, r2)) ∧ Aside0 (kq ≤ k) ∧ Aside0 (Kd.R (Kd.int .i64) 3 wc w.heap.size (fun _ => True) (.slice Ao10 t120.length co10) t120) ∧ Aside0 (wc.heap[gb124]? = some (.cells #[.int .i64 t116, .int .i64 t117, .int .i64 t118, .int .i64 t119, (.slice Ao10 t120.length co10)] 24 (0, 0))) ∧ Aside0 (Below w.heap.size w wc))
 case first =>
  have H := HC6.out
  clear HC6
  by_cases c11 : t123 = 0
  rotate_left
  · rw [if_neg c11] at H
    have c11b0 : (t123 == 0) = false := beq_eq_false_iff_ne.mpr c11
    have c11b1 : (t123 != 0) = true := bne_iff_ne.mpr c11
    (first | rw [c11b0] | (simp only [i64_w, i32_w]; rw [c11b0]) | skip)
    have H' := Aside0.mk H
    clear H
    go_wp2
    go_meet
    case rel => exact ⟨_, (true), (by first | rfl | (simp; done) | (simp [*]; done)), H', ⟨by first | omega | exact Nat.le_refl _⟩, ⟨by (with_reducible repeat (first | apply Kd.R_alloc | apply Kd.R_drewN | apply Kd.R_drew)); exact Kd.R_mono (Kd.R_far (p := ⟨gb124, 4, none⟩) (Kd.R_far (p := ⟨gb124, 3, none⟩) (Kd.R_far (p := ⟨gb124, 2, none⟩) (Kd.R_far (p := ⟨gb124, 1, none⟩) (Kd.R_far (p := ⟨gb124, 0, none⟩) (Kd.R_types HO122.out BK124.out (by decide)) (fun _ hk => hk.2) (.int .i64 t116)) (fun _ hk => hk.2) (.int .i64 t117)) (fun _ hk => hk.2) (.int .i64 t118)) (fun _ hk => hk.2) (.int .i64 t119)) (fun _ hk => hk.2) (.slice Ao10 t120.length co10)) (fun _ hk => trivial)⟩, ⟨by (with_reducible repeat (first | refine blk_drewN ?_ _ | refine blk_drew ?_ | refine blk_alloc ?_ _)); refine blk_put (cs := #[.int .i64 t116, .int .i64 t117, .int .i64 t118, .int .i64 t119, .slice none 0 0]) ?_ 4 _ rfl; (with_reducible repeat (first | refine blk_drewN ?_ _ | refine blk_drew ?_ | refine blk_alloc ?_ _)); refine blk_put (cs := #[.int .i64 t116, .int .i64 t117, .int .i64 t118, .int .i64 0, .slice none 0 0]) ?_ 3 _ rfl; (with_reducible repeat (first | refine blk_drewN ?_ _ | refine blk_drew ?_ | refine blk_alloc ?_ _)); refine blk_put (cs := #[.int .i64 t116, .int .i64 t117, .int .i64 0, .int .i64 0, .slice none 0 0]) ?_ 2 _ rfl; (with_reducible repeat (first | refine blk_drewN ?_ _ | refine blk_drew ?_ | refine blk_alloc ?_ _)); refine blk_put (cs := #[.int .i64 t116, .int .i64 0, .int .i64 0, .int .i64 0, .slice none 0 0]) ?_ 1 _ rfl; (with_reducible repeat (first | refine blk_drewN ?_ _ | refine blk_drew ?_ | refine blk_alloc ?_ _)); refine blk_put (cs := #[.int .i64 0, .int .i64 0, .int .i64 0, .int .i64 0, .slice none 0 0]) ?_ 0 _ rfl; (with_reducible repeat (first | refine blk_drewN ?_ _ | refine blk_drew ?_ | refine blk_alloc ?_ _)); exact BK124.out⟩, ⟨by repeat (first | (with_reducible first | exact HB.out | apply below_alloc | apply pw_below_drewN | apply below_drew1 | refine below_set ?_ GE124.out) | exact HB.out)⟩⟩
  rw [if_pos c11] at H
  have c11b0 : (t123 == 0) = true := beq_iff_eq.mpr c11
  have c11b1 : (t123 != 0) = false := bne_eq_false_iff_eq.mpr c11
  clear c11
  (first | rw [c11b0] | (simp only [i64_w, i32_w]; rw [c11b0]) | skip)
  have H' := Aside0.mk H
  clear H
  have hczv1 : w8.cell? ⟨gb124, 0, none⟩ = some (.int .i64 0) := (blk_cell BK124.out 0).trans rfl
  have hczv2 : w8.cell? ⟨gb124, 1, none⟩ = some (.int .i64 0) := (blk_cell BK124.out 1).trans rfl
  have hczv3 : w8.cell? ⟨gb124, 2, none⟩ = some (.int .i64 0) := (blk_cell BK124.out 2).trans rfl
  have hczv4 : w8.cell? ⟨gb124, 3, none⟩ = some (.int .i64 0) := (blk_cell BK124.out 3).trans rfl
  have hczv5 : w8.cell? ⟨gb124, 4, none⟩ = some (.slice none 0 0) := (blk_cell BK124.out 4).trans rfl
  have hfzv1 := blk_frozen BK124.out 0
  have hfzv2 := blk_frozen BK124.out 1
  have hfzv3 := blk_frozen BK124.out 2
  have hfzv4 := blk_frozen BK124.out 3
  have hfzv5 := blk_frozen BK124.out 4
  go_wp2
  go_meet
  case rel => exact ⟨_, (decide (t116 < a3)), (by first | rfl | (simp; done) | (simp [*]; done)), H', ⟨by first | omega | exact Nat.le_refl _⟩, ⟨by (with_reducible repeat (first | apply Kd.R_alloc | apply Kd.R_drewN | apply Kd.R_drew)); exact Kd.R_mono (Kd.R_far (p := ⟨gb124, 4, none⟩) (Kd.R_far (p := ⟨gb124, 3, none⟩) (Kd.R_far (p := ⟨gb124, 2, none⟩) (Kd.R_far (p := ⟨gb124, 1, none⟩) (Kd.R_far (p := ⟨gb124, 0, none⟩) (Kd.R_types HO122.out BK124.out (by decide)) (fun _ hk => hk.2) (.int .i64 t116)) (fun _ hk => hk.2) (.int .i64 t117)) (fun _ hk => hk.2) (.int .i64 t118)) (fun _ hk => hk.2) (.int .i64 t119)) (fun _ hk => hk.2) (.slice Ao10 t120.length co10)) (fun _ hk => trivial)⟩, ⟨by (with_reducible repeat (first | refine blk_drewN ?_ _ | refine blk_drew ?_ | refine blk_alloc ?_ _)); refine blk_put (cs := #[.int .i64 t116, .int .i64 t117, .int .i64 t118, .int .i64 t119, .slice none 0 0]) ?_ 4 _ rfl; (with_reducible repeat (first | refine blk_drewN ?_ _ | refine blk_drew ?_ | refine blk_alloc ?_ _)); refine blk_put (cs := #[.int .i64 t116, .int .i64 t117, .int .i64 t118, .int .i64 0, .slice none 0 0]) ?_ 3 _ rfl; (with_reducible repeat (first | refine blk_drewN ?_ _ | refine blk_drew ?_ | refine blk_alloc ?_ _)); refine blk_put (cs := #[.int .i64 t116, .int .i64 t117, .int .i64 0, .int .i64 0, .slice none 0 0]) ?_ 2 _ rfl; (with_reducible repeat (first | refine blk_drewN ?_ _ | refine blk_drew ?_ | refine blk_alloc ?_ _)); refine blk_put (cs := #[.int .i64 t116, .int .i64 0, .int .i64 0, .int .i64 0, .slice none 0 0]) ?_ 1 _ rfl; (with_reducible repeat (first | refine blk_drewN ?_ _ | refine blk_drew ?_ | refine blk_alloc ?_ _)); refine blk_put (cs := #[.int .i64 0, .int .i64 0, .int .i64 0, .int .i64 0, .slice none 0 0]) ?_ 0 _ rfl; (with_reducible repeat (first | refine blk_drewN ?_ _ | refine blk_drew ?_ | refine blk_alloc ?_ _)); exact BK124.out⟩, ⟨by repeat (first | (with_reducible first | exact HB.out | apply below_alloc | apply pw_below_drewN | apply below_drew1 | refine below_set ?_ GE124.out) | exact HB.out)⟩⟩
 case rest =>
  clear HC6
  try clear c1
  try clear p2
  try clear c4
  try clear c11
  try clear c11b0
  try clear c11b1
  try clear hcz12_0
  try clear hcz12_1
  try clear hcz12_2
  try clear hcz12_3
  try clear hcz12_4
  try clear hcz9_0
  try clear hcz9_1
  try clear hcz9_2
  try clear hcz9_3
  try clear hcz9_4
  try clear hfz12_0
  try clear hfz12_1
  try clear hfz12_2
  try clear hfz12_3
  try clear hfz12_4
  try clear hfz9_0
  try clear hfz9_1
  try clear hfz9_2
  try clear hfz9_3
  try clear hfz9_4
  obtain ⟨kq, x37_5, rfl, HA, HJ5, HO_125004, BK124, HB⟩ := hcut
  cases kq with
  | zero => exact absurd HA.out (by simp [lamplighterref15_Down.j0])
  | succ kj5 =>
   have H := HA.out
   clear HA
   simp only [lamplighterref15_Down.j0] at H
   by_cases c13 : x37_5 = true
   · subst c13
     have Hv1 : (some (0, 90)) = some (r1, r2) := by rw [if_pos rfl] at H; exact H
     clear H
     have H := Hv1
     clear Hv1
     simp only [Option.some.injEq, Prod.mk.injEq] at H
     obtain ⟨rfl, rfl⟩ := H
     go_wp2
     go_ret2
     exact ⟨by first | rfl | (simp [errW_none, errW_some] <;> rfl) | (simp [*, errW_none, errW_some] <;> rfl), by repeat (first | (with_reducible first | exact HB.out | apply below_alloc | apply pw_below_drewN | apply below_drew1 | refine below_set ?_ GE124.out) | exact HB.out)⟩
   replace c13 := Bool.eq_false_iff.mpr c13
   subst c13
   have Hv1 : (if t118 = 0 then (lamplighterref15_Down.j2 kj5 l0 a1 a2 a3 t116 t117 t118 t119 t120) else ((lamplighterref09_Read.f l0 t118).bind fun btv1 => ((lamplighterref11_Low.f l0 t118).bind fun btv2 => (if t118 = a1 then (lamplighterref15_Down.j1 kj5 l0 a1 a2 a3 btv2.1 true t116 t117 t118 t119 t120) else (if btv1.2.2.2.2.2 = 0 then (if btv1.1 = t116 then (lamplighterref15_Down.j1 kj5 l0 a1 a2 a3 btv2.1 (btv2.2 != 0) t116 t117 t118 t119 t120) else (lamplighterref15_Down.j1 kj5 l0 a1 a2 a3 btv2.1 true t116 t117 t118 t119 t120)) else (lamplighterref15_Down.j1 kj5 l0 a1 a2 a3 btv2.1 true t116 t117 t118 t119 t120)))))) = some (r1, r2) := by rw [if_neg (show ¬ (false = true) by decide)] at H; exact H
   clear H
   have H := Hv1
   clear Hv1
   have HCv1 := Aside0.mk H
   clear H
   have hczv1 : wc.cell? ⟨gb124, 0, none⟩ = some (.int .i64 t116) := (blk_cell BK124.out 0).trans rfl
   have hczv2 : wc.cell? ⟨gb124, 1, none⟩ = some (.int .i64 t117) := (blk_cell BK124.out 1).trans rfl
   have hczv3 : wc.cell? ⟨gb124, 2, none⟩ = some (.int .i64 t118) := (blk_cell BK124.out 2).trans rfl
   have hczv4 : wc.cell? ⟨gb124, 3, none⟩ = some (.int .i64 t119) := (blk_cell BK124.out 3).trans rfl
   have hczv5 : wc.cell? ⟨gb124, 4, none⟩ = some (.slice Ao10 t120.length co10) := (blk_cell BK124.out 4).trans rfl
   have hfzv1 := blk_frozen BK124.out 0
   have hfzv2 := blk_frozen BK124.out 1
   have hfzv3 := blk_frozen BK124.out 2
   have hfzv4 := blk_frozen BK124.out 3
   have hfzv5 := blk_frozen BK124.out 4
   go_upto_if 40 with (fail)
   go_cut [] (fun wc => ∃ (kq : Nat), Aside0 (lamplighterref15_Down.j2 kq l0 a1 a2 a3 t116 t117 t118 t119 t120 = some (r1, r2)) ∧ Aside0 (kq ≤ kj5) ∧ Aside0 (Kd.R (Kd.int .i64) 3 wc w.heap.size (fun _ => True) (.slice Ao10 t120.length co10) t120) ∧ Aside0 (wc.heap[gb124]? = some (.cells #[.int .i64 t116, .int .i64 t117, .int .i64 t118, .int .i64 t119, (.slice Ao10 t120.length co10)] 24 (0, 0))) ∧ Aside0 (Below w.heap.size w wc))
   case first =>
    have H := HCv1.out
    clear HCv1
    by_cases cv1 : t118 = 0
    · rw [if_pos cv1] at H
      have c16b0 : (t118 == 0) = true := beq_iff_eq.mpr cv1
      have c16b1 : (t118 != 0) = false := bne_eq_false_iff_eq.mpr cv1
      clear cv1
      (first | rw [c16b0] | (simp only [i64_w, i32_w]; rw [c16b0]) | skip)
      have H' := Aside0.mk H
      clear H
      go_wp2
      go_meet
      case rel => exact ⟨_, H', ⟨by have := HJ5.out; first | omega | exact Nat.le_refl _⟩, ⟨by (with_reducible repeat (first | apply Kd.R_alloc | apply Kd.R_drewN | apply Kd.R_drew)); exact HO_125004.out⟩, ⟨by (with_reducible repeat (first | refine blk_drewN ?_ _ | refine blk_drew ?_ | refine blk_alloc ?_ _)); exact BK124.out⟩, ⟨by repeat (first | (with_reducible first | exact HB.out | apply below_alloc | apply pw_below_drewN | apply below_drew1 | refine below_set ?_ GE124.out) | exact HB.out)⟩⟩
    rw [if_neg cv1] at H
    have c16b0 : (t118 == 0) = false := beq_eq_false_iff_ne.mpr cv1
    have c16b1 : (t118 != 0) = true := bne_iff_ne.mpr cv1
    (first | rw [c16b0] | (simp only [i64_w, i32_w]; rw [c16b0]) | skip)
    replace H := Option.bind_eq_some_iff.mp H
    obtain ⟨⟨tv1, tv2, tv3, tv4, tv5, tv6⟩, Av1, H⟩ := H
    try dsimp only at H
    have Av2 := Aside0.mk Av1
    clear Av1
    replace H := Option.bind_eq_some_iff.mp H
    obtain ⟨⟨tv7, tv8⟩, Av3, H⟩ := H
    try dsimp only at H
    have Av4 := Aside0.mk Av3
    clear Av3
    have HCv2 := Aside0.mk H
    clear H
    have hczv6 : wc.cell? ⟨gb124, 0, none⟩ = some (.int .i64 t116) := (blk_cell BK124.out 0).trans rfl
    have hczv7 : wc.cell? ⟨gb124, 1, none⟩ = some (.int .i64 t117) := (blk_cell BK124.out 1).trans rfl
    have hczv8 : wc.cell? ⟨gb124, 2, none⟩ = some (.int .i64 t118) := (blk_cell BK124.out 2).trans rfl
    have hczv9 : wc.cell? ⟨gb124, 3, none⟩ = some (.int .i64 t119) := (blk_cell BK124.out 3).trans rfl
    have hczv10 : wc.cell? ⟨gb124, 4, none⟩ = some (.slice Ao10 t120.length co10) := (blk_cell BK124.out 4).trans rfl
    have hfzv6 := blk_frozen BK124.out 0
    have hfzv7 := blk_frozen BK124.out 1
    have hfzv8 := blk_frozen BK124.out 2
    have hfzv9 := blk_frozen BK124.out 3
    have hfzv10 := blk_frozen BK124.out 4
    go_upto_region 7 with (first | ((with_reducible refine gate_callee (f := 41) rfl ?_); refine goesL_ (some 45) rfl rfl Try.func41 (by kernel_rfl) rfl #[.slice A0 l0.length c0, .int .i64 t118] rfl (by (try simp only [List.map_toArray, List.map_cons, List.map_nil]); first | done | rfl | (simp only [List.length_drop, List.length_take]; rfl)) ?_; (with_reducible refine (lamplighterref09_Read.calls _ _ l0 t118 tv1 tv2 tv3 tv4 tv5 tv6 _ ?side1 ?side2 Av2.out).mono ?_); (case side1 => repeat (first | exact (Kd.C_below HR0.out HB.out) | (with_reducible refine Kd.C_alloc ?_ _) | (with_reducible refine Kd.C_drewN ?_ _) | (with_reducible refine Kd.C_drew ?_))); (case side2 => exact HC0.out); rintro e wv1 ⟨vvv1, rfl, ho0, hb⟩; refine ⟨_, rfl, ?_⟩; have n0_ := Aside0.mk (Kd.R_elder' (by (with_reducible repeat (first | apply Kd.R_alloc | apply Kd.R_drewN | apply Kd.R_drew)); exact HO_125004.out) (Kd.R_base ho0) hb); have n1_ := Aside0.mk (Kd.R_lower (Kd.R_new' ho0 (Kd.R_lt (by (with_reducible repeat (first | apply Kd.R_alloc | apply Kd.R_drewN | apply Kd.R_drew)); exact HO_125004.out))) (below_size (by repeat (first | (with_reducible first | exact HB.out | apply below_alloc | apply pw_below_drewN | apply below_drew1 | refine below_set ?_ GE124.out) | exact HB.out)))); have n2_ := Aside0.mk (blk_below (g := gb124) (o := .cells #[.int .i64 t116, .int .i64 t117, .int .i64 t118, .int .i64 t119, .slice Ao10 t120.length co10] 24 (0, 0)) (by (with_reducible repeat (first | refine blk_drewN ?_ _ | refine blk_drew ?_ | refine blk_alloc ?_ _)); exact BK124.out) hb); have n3_ := Aside0.mk (below_step (by repeat (first | (with_reducible first | exact HB.out | apply below_alloc | apply pw_below_drewN | apply below_drew1 | refine below_set ?_ GE124.out) | exact HB.out)) hb); clear HO_125004; clear BK124; clear HB; have HO_125004 := n0_; have HOv1 := n1_; have BK124 := n2_; have HB := n3_; clear n0_ n1_ n2_ n3_; (try clear hb); (try clear hb2); (try clear hk); (try clear hi); (try clear ho0)) | ((with_reducible refine gate_dst (N := 12) rfl ?_); refine box_event ?hg (N := 12) ?hd (cs := #[.int .i64 0, .int .i64 0, .int .i64 0, .int .i64 0, .slice none 0 0]) (t := 24) ?hr ?_; (case hd => rfl); (case hg => rfl); (case hr => first | (go_simp; done) | (go_simp; rfl)); intro gbv1 hg wv2 hbox hb; have n0_ := Aside0.mk (Kd.R_below (by (with_reducible repeat (first | apply Kd.R_alloc | apply Kd.R_drewN | apply Kd.R_drew)); exact HO_125004.out) hb); have n1_ := Aside0.mk (Kd.R_below (by (with_reducible repeat (first | apply Kd.R_alloc | apply Kd.R_drewN | apply Kd.R_drew)); exact HOv1.out) hb); have n2_ := Aside0.mk (blk_below (g := gb124) (o := .cells #[.int .i64 t116, .int .i64 t117, .int .i64 t118, .int .i64 t119, .slice Ao10 t120.length co10] 24 (0, 0)) (by (with_reducible repeat (first | refine blk_drewN ?_ _ | refine blk_drew ?_ | refine blk_alloc ?_ _)); exact BK124.out) hb); have n3_ := Aside0.mk (below_step (by repeat (first | (with_reducible first | exact HB.out | apply below_alloc | apply pw_below_drewN | apply below_drew1 | refine below_set ?_ GE124.out) | exact HB.out)) hb); have n4_ := Aside0.mk (hbox); have n5_ := Aside0.mk ((by rw [hg]; exact (below_size (by repeat (first | (with_reducible first | exact HB.out | apply below_alloc | apply pw_below_drewN | apply below_drew1 | refine below_set ?_ GE124.out) | exact HB.out))) : w.heap.size ≤ gbv1)); have n6_ := Aside0.mk ((by rw [hg]; exact (below_size (by repeat (first | (with_reducible first | exact HB.out | apply below_alloc | apply pw_below_drewN | apply below_drew1 | refine below_set ?_ GE124.out) | exact HB.out))) : w.heap.size ≤ gbv1)); have n7_ := Aside0.mk ((by rw [hg]; exact Nat.ne_of_lt (blk_lt (g := gb124) (o := .cells #[.int .i64 t116, .int .i64 t117, .int .i64 t118, .int .i64 t119, .slice Ao10 t120.length co10] 24 (0, 0)) (by (with_reducible repeat (first | refine blk_drewN ?_ _ | refine blk_drew ?_ | refine blk_alloc ?_ _)); exact BK124.out)) : gb124 ≠ gbv1)); have n8_ := Aside0.mk ((by rw [hg]; exact Nat.ne_of_gt (blk_lt (g := gb124) (o := .cells #[.int .i64 t116, .int .i64 t117, .int .i64 t118, .int .i64 t119, .slice Ao10 t120.length co10] 24 (0, 0)) (by (with_reducible repeat (first | refine blk_drewN ?_ _ | refine blk_drew ?_ | refine blk_alloc ?_ _)); exact BK124.out)) : gbv1 ≠ gb124)); clear HO_125004; clear HOv1; clear BK124; clear HB; have HO_125004 := n0_; have HOv1 := n1_; have BK124 := n2_; have HB := n3_; have BKv1 := n4_; have GWv1 := n5_; have GEv1 := n6_; have NBv1 := n7_; have NBv2 := n8_; clear n0_ n1_ n2_ n3_ n4_ n5_ n6_ n7_ n8_; clear hb hbox hg; have hnbv1 := NBv2.out; have hncv1 := NBv1.out; have hczv11 : wv2.cell? ⟨gbv1, 0, none⟩ = some (.int .i64 0) := (blk_cell BKv1.out 0).trans rfl; have hczv12 : wv2.cell? ⟨gbv1, 1, none⟩ = some (.int .i64 0) := (blk_cell BKv1.out 1).trans rfl; have hczv13 : wv2.cell? ⟨gbv1, 2, none⟩ = some (.int .i64 0) := (blk_cell BKv1.out 2).trans rfl; have hczv14 : wv2.cell? ⟨gbv1, 3, none⟩ = some (.int .i64 0) := (blk_cell BKv1.out 3).trans rfl; have hczv15 : wv2.cell? ⟨gbv1, 4, none⟩ = some (.slice none 0 0) := (blk_cell BKv1.out 4).trans rfl; have hfzv11 := blk_frozen BKv1.out 0; have hfzv12 := blk_frozen BKv1.out 1; have hfzv13 := blk_frozen BKv1.out 2; have hfzv14 := blk_frozen BKv1.out 3; have hfzv15 := blk_frozen BKv1.out 4; obtain ⟨Aov1, cov1, eov1⟩ := Kd.R_slice HOv1.out; subst eov1; have hczv16 : wv2.cell? ⟨gb124, 0, none⟩ = some (.int .i64 t116) := (blk_cell BK124.out 0).trans rfl; have hczv17 : wv2.cell? ⟨gb124, 1, none⟩ = some (.int .i64 t117) := (blk_cell BK124.out 1).trans rfl; have hczv18 : wv2.cell? ⟨gb124, 2, none⟩ = some (.int .i64 t118) := (blk_cell BK124.out 2).trans rfl; have hczv19 : wv2.cell? ⟨gb124, 3, none⟩ = some (.int .i64 t119) := (blk_cell BK124.out 3).trans rfl; have hczv20 : wv2.cell? ⟨gb124, 4, none⟩ = some (.slice Ao10 t120.length co10) := (blk_cell BK124.out 4).trans rfl; have hfzv16 := blk_frozen BK124.out 0; have hfzv17 := blk_frozen BK124.out 1; have hfzv18 := blk_frozen BK124.out 2; have hfzv19 := blk_frozen BK124.out 3; have hfzv20 := blk_frozen BK124.out 4) | ((with_reducible refine gate_callee (f := 42) rfl ?_); refine goesL_ (some 52) rfl rfl Try.func42 (by kernel_rfl) rfl #[.slice A0 l0.length c0, .int .i64 t118] rfl (by (try simp only [List.map_toArray, List.map_cons, List.map_nil]); first | done | rfl | (simp only [List.length_drop, List.length_take]; rfl)) ?_; (with_reducible refine (lamplighterref11_Low.calls _ _ l0 t118 tv7 tv8 _ ?side1 ?side2 Av4.out).mono ?_); (case side1 => exact Kd.C_below HR0.out (by repeat (first | (with_reducible first | exact HB.out | apply below_alloc | apply pw_below_drewN | apply below_drew1 | refine below_set ?_ GE124.out | refine below_set ?_ GEv1.out) | exact HB.out))); (case side2 => exact HC0.out); rintro e wv3 ⟨rfl, hb⟩; refine ⟨_, rfl, ?_⟩; have n0_ := Aside0.mk (Kd.R_below (by (with_reducible repeat (first | apply Kd.R_alloc | apply Kd.R_drewN | apply Kd.R_drew)); exact (Kd.R_mono (Kd.R_far (p := ⟨gbv1, 4, none⟩) (Kd.R_far (p := ⟨gbv1, 3, none⟩) (Kd.R_far (p := ⟨gbv1, 2, none⟩) (Kd.R_far (p := ⟨gbv1, 1, none⟩) (Kd.R_far (p := ⟨gbv1, 0, none⟩) (Kd.R_types HO_125004.out BKv1.out (by decide)) (fun _ hk => hk.2) (.int .i64 tv1)) (fun _ hk => hk.2) (.int .i64 tv2)) (fun _ hk => hk.2) (.int .i64 tv3)) (fun _ hk => hk.2) (.int .i64 tv4)) (fun _ hk => hk.2) (.slice Aov1 tv5.length cov1)) (fun _ h_ => h_.1))) hb); have n1_ := Aside0.mk (Kd.R_below (by (with_reducible repeat (first | apply Kd.R_alloc | apply Kd.R_drewN | apply Kd.R_drew)); exact (Kd.R_mono (Kd.R_far (p := ⟨gbv1, 4, none⟩) (Kd.R_far (p := ⟨gbv1, 3, none⟩) (Kd.R_far (p := ⟨gbv1, 2, none⟩) (Kd.R_far (p := ⟨gbv1, 1, none⟩) (Kd.R_far (p := ⟨gbv1, 0, none⟩) (Kd.R_types HOv1.out BKv1.out (by decide)) (fun _ hk => hk.2) (.int .i64 tv1)) (fun _ hk => hk.2) (.int .i64 tv2)) (fun _ hk => hk.2) (.int .i64 tv3)) (fun _ hk => hk.2) (.int .i64 tv4)) (fun _ hk => hk.2) (.slice Aov1 tv5.length cov1)) (fun _ h_ => h_.1))) hb); have n2_ := Aside0.mk (blk_below (g := gb124) (o := .cells #[.int .i64 t116, .int .i64 t117, .int .i64 t118, .int .i64 t119, .slice Ao10 t120.length co10] 24 (0, 0)) (by (with_reducible repeat (first | refine blk_drewN ?_ _ | refine blk_drew ?_ | refine blk_alloc ?_ _)); refine blk_far ?_ NBv1.out _; (with_reducible repeat (first | refine blk_drewN ?_ _ | refine blk_drew ?_ | refine blk_alloc ?_ _)); refine blk_far ?_ NBv1.out _; (with_reducible repeat (first | refine blk_drewN ?_ _ | refine blk_drew ?_ | refine blk_alloc ?_ _)); refine blk_far ?_ NBv1.out _; (with_reducible repeat (first | refine blk_drewN ?_ _ | refine blk_drew ?_ | refine blk_alloc ?_ _)); refine blk_far ?_ NBv1.out _; (with_reducible repeat (first | refine blk_drewN ?_ _ | refine blk_drew ?_ | refine blk_alloc ?_ _)); refine blk_far ?_ NBv1.out _; (with_reducible repeat (first | refine blk_drewN ?_ _ | refine blk_drew ?_ | refine blk_alloc ?_ _)); exact BK124.out) hb); have n3_ := Aside0.mk (blk_below (g := gbv1) (o := .cells #[.int .i64 tv1, .int .i64 tv2, .int .i64 tv3, .int .i64 tv4, .slice Aov1 tv5.length cov1] 24 (0, 0)) (by (with_reducible repeat (first | refine blk_drewN ?_ _ | refine blk_drew ?_ | refine blk_alloc ?_ _)); refine blk_put (cs := #[.int .i64 tv1, .int .i64 tv2, .int .i64 tv3, .int .i64 tv4, .slice none 0 0]) ?_ 4 _ rfl; (with_reducible repeat (first | refine blk_drewN ?_ _ | refine blk_drew ?_ | refine blk_alloc ?_ _)); refine blk_put (cs := #[.int .i64 tv1, .int .i64 tv2, .int .i64 tv3, .int .i64 0, .slice none 0 0]) ?_ 3 _ rfl; (with_reducible repeat (first | refine blk_drewN ?_ _ | refine blk_drew ?_ | refine blk_alloc ?_ _)); refine blk_put (cs := #[.int .i64 tv1, .int .i64 tv2, .int .i64 0, .int .i64 0, .slice none 0 0]) ?_ 2 _ rfl; (with_reducible repeat (first | refine blk_drewN ?_ _ | refine blk_drew ?_ | refine blk_alloc ?_ _)); refine blk_put (cs := #[.int .i64 tv1, .int .i64 0, .int .i64 0, .int .i64 0, .slice none 0 0]) ?_ 1 _ rfl; (with_reducible repeat (first | refine blk_drewN ?_ _ | refine blk_drew ?_ | refine blk_alloc ?_ _)); refine blk_put (cs := #[.int .i64 0, .int .i64 0, .int .i64 0, .int .i64 0, .slice none 0 0]) ?_ 0 _ rfl; (with_reducible repeat (first | refine blk_drewN ?_ _ | refine blk_drew ?_ | refine blk_alloc ?_ _)); exact BKv1.out) hb); have n4_ := Aside0.mk (below_step (by repeat (first | (with_reducible first | exact HB.out | apply below_alloc | apply pw_below_drewN | apply below_drew1 | refine below_set ?_ GE124.out | refine below_set ?_ GEv1.out) | exact HB.out)) hb); clear HO_125004; clear HOv1; clear BK124; clear BKv1; clear HB; have HO_125004 := n0_; have HOv1 := n1_; have BK124 := n2_; have BKv1 := n3_; have HB := n4_; clear n0_ n1_ n2_ n3_ n4_; (try clear hb); (try clear hb2); (try clear hk); (try clear hi)))
    (try simp only [Act.put, List.setIfInBounds_toArray, List.set_cons_zero, List.set_cons_succ])
    go_cut [73] (fun vvv2 wc => ∃ (kq : Nat) (xv1 : Bool), vvv2 = .bool xv1 ∧ Aside0 (lamplighterref15_Down.j1 kq l0 a1 a2 a3 tv7 xv1 t116 t117 t118 t119 t120 = some (r1, r2)) ∧ Aside0 (kq ≤ kj5) ∧ Aside0 (Kd.R (Kd.int .i64) 3 wc w.heap.size (fun k_ => some k_ ≠ ((.slice Aov1 tv5.length cov1) : Value).ownBlock) (.slice Ao10 t120.length co10) t120) ∧ Aside0 (Kd.R (Kd.int .i64) 3 wc w.heap.size (fun k_ => some k_ ≠ ((.slice Ao10 t120.length co10) : Value).ownBlock) (.slice Aov1 tv5.length cov1) tv5) ∧ Aside0 (wc.heap[gb124]? = some (.cells #[.int .i64 t116, .int .i64 t117, .int .i64 t118, .int .i64 t119, (.slice Ao10 t120.length co10)] 24 (0, 0))) ∧ Aside0 (wc.heap[gbv1]? = some (.cells #[.int .i64 tv1, .int .i64 tv2, .int .i64 tv3, .int .i64 tv4, (.slice Aov1 tv5.length cov1)] 24 (0, 0))) ∧ Aside0 (Below w.heap.size w wc))
    case first =>
     have H := HCv2.out
     clear HCv2
     by_cases cv2 : t118 = a1
     rw [if_pos cv2] at H
     have c28b0 : (t118 == a1) = true := beq_iff_eq.mpr cv2
     have c28b1 : (t118 != a1) = false := bne_eq_false_iff_eq.mpr cv2
     clear cv2
     (first | rw [c28b0] | (simp only [i64_w, i32_w]; rw [c28b0]) | skip)
     have hq0 := Aside0.mk True.intro
     rotate_left
     rw [if_neg cv2] at H
     have c28b0 : (t118 == a1) = false := beq_eq_false_iff_ne.mpr cv2
     have c28b1 : (t118 != a1) = true := bne_iff_ne.mpr cv2
     (first | rw [c28b0] | (simp only [i64_w, i32_w]; rw [c28b0]) | skip)
     by_cases cv3 : tv6 = 0
     rw [if_pos cv3] at H
     have c31b0 : (tv6 == 0) = true := beq_iff_eq.mpr cv3
     have c31b1 : (tv6 != 0) = false := bne_eq_false_iff_eq.mpr cv3
     clear cv3
     by_cases cv4 : tv1 = t116
     · rw [if_pos cv4] at H
       have c32b0 : (tv1 == t116) = true := beq_iff_eq.mpr cv4
       have c32b1 : (tv1 != t116) = false := bne_eq_false_iff_eq.mpr cv4
       clear cv4
       have H' := Aside0.mk H
       clear H
       have hnbv2 := NBv1.out
       have hncv2 := NBv2.out
       have hczv21 : wv3.cell? ⟨gb124, 0, none⟩ = some (.int .i64 t116) := (blk_cell BK124.out 0).trans rfl
       have hczv22 : wv3.cell? ⟨gb124, 1, none⟩ = some (.int .i64 t117) := (blk_cell BK124.out 1).trans rfl
       have hczv23 : wv3.cell? ⟨gb124, 2, none⟩ = some (.int .i64 t118) := (blk_cell BK124.out 2).trans rfl
       have hczv24 : wv3.cell? ⟨gb124, 3, none⟩ = some (.int .i64 t119) := (blk_cell BK124.out 3).trans rfl
       have hczv25 : wv3.cell? ⟨gb124, 4, none⟩ = some (.slice Ao10 t120.length co10) := (blk_cell BK124.out 4).trans rfl
       have hfzv21 := blk_frozen BK124.out 0
       have hfzv22 := blk_frozen BK124.out 1
       have hfzv23 := blk_frozen BK124.out 2
       have hfzv24 := blk_frozen BK124.out 3
       have hfzv25 := blk_frozen BK124.out 4
       have hczv26 : wv3.cell? ⟨gbv1, 0, none⟩ = some (.int .i64 tv1) := (blk_cell BKv1.out 0).trans rfl
       have hczv27 : wv3.cell? ⟨gbv1, 1, none⟩ = some (.int .i64 tv2) := (blk_cell BKv1.out 1).trans rfl
       have hczv28 : wv3.cell? ⟨gbv1, 2, none⟩ = some (.int .i64 tv3) := (blk_cell BKv1.out 2).trans rfl
       have hczv29 : wv3.cell? ⟨gbv1, 3, none⟩ = some (.int .i64 tv4) := (blk_cell BKv1.out 3).trans rfl
       have hczv30 : wv3.cell? ⟨gbv1, 4, none⟩ = some (.slice Aov1 tv5.length cov1) := (blk_cell BKv1.out 4).trans rfl
       have hfzv26 := blk_frozen BKv1.out 0
       have hfzv27 := blk_frozen BKv1.out 1
       have hfzv28 := blk_frozen BKv1.out 2
       have hfzv29 := blk_frozen BKv1.out 3
       have hfzv30 := blk_frozen BKv1.out 4
       go_wp2
       go_meet
       case rel => exact ⟨_, ((tv8 != 0)), (by first | rfl | (simp; done) | (simp [*]; done)), H', ⟨by have := HJ5.out; first | omega | exact Nat.le_refl _⟩, ⟨by (with_reducible repeat (first | apply Kd.R_alloc | apply Kd.R_drewN | apply Kd.R_drew)); exact Kd.R_mono HO_125004.out (fun _ hk => hk.2)⟩, ⟨by (with_reducible repeat (first | apply Kd.R_alloc | apply Kd.R_drewN | apply Kd.R_drew)); exact Kd.R_mono HOv1.out (fun _ hk => hk.2)⟩, ⟨by (with_reducible repeat (first | refine blk_drewN ?_ _ | refine blk_drew ?_ | refine blk_alloc ?_ _)); exact BK124.out⟩, ⟨by (with_reducible repeat (first | refine blk_drewN ?_ _ | refine blk_drew ?_ | refine blk_alloc ?_ _)); exact BKv1.out⟩, ⟨by repeat (first | (with_reducible first | exact HB.out | apply below_alloc | apply pw_below_drewN | apply below_drew1 | refine below_set ?_ GE124.out | refine below_set ?_ GEv1.out) | exact HB.out)⟩⟩
     rw [if_neg cv4] at H
     have c32b0 : (tv1 == t116) = false := beq_eq_false_iff_ne.mpr cv4
     have c32b1 : (tv1 != t116) = true := bne_iff_ne.mpr cv4
     have H' := Aside0.mk H
     clear H
     have hnbv2 := NBv1.out
     have hncv2 := NBv2.out
     have hczv21 : wv3.cell? ⟨gb124, 0, none⟩ = some (.int .i64 t116) := (blk_cell BK124.out 0).trans rfl
     have hczv22 : wv3.cell? ⟨gb124, 1, none⟩ = some (.int .i64 t117) := (blk_cell BK124.out 1).trans rfl
     have hczv23 : wv3.cell? ⟨gb124, 2, none⟩ = some (.int .i64 t118) := (blk_cell BK124.out 2).trans rfl
     have hczv24 : wv3.cell? ⟨gb124, 3, none⟩ = some (.int .i64 t119) := (blk_cell BK124.out 3).trans rfl
     have hczv25 : wv3.cell? ⟨gb124, 4, none⟩ = some (.slice Ao10 t120.length co10) := (blk_cell BK124.out 4).trans rfl
     have hfzv21 := blk_frozen BK124.out 0
     have hfzv22 := blk_frozen BK124.out 1
     have hfzv23 := blk_frozen BK124.out 2
     have hfzv24 := blk_frozen BK124.out 3
     have hfzv25 := blk_frozen BK124.out 4
     have hczv26 : wv3.cell? ⟨gbv1, 0, none⟩ = some (.int .i64 tv1) := (blk_cell BKv1.out 0).trans rfl
     have hczv27 : wv3.cell? ⟨gbv1, 1, none⟩ = some (.int .i64 tv2) := (blk_cell BKv1.out 1).trans rfl
     have hczv28 : wv3.cell? ⟨gbv1, 2, none⟩ = some (.int .i64 tv3) := (blk_cell BKv1.out 2).trans rfl
     have hczv29 : wv3.cell? ⟨gbv1, 3, none⟩ = some (.int .i64 tv4) := (blk_cell BKv1.out 3).trans rfl
     have hczv30 : wv3.cell? ⟨gbv1, 4, none⟩ = some (.slice Aov1 tv5.length cov1) := (blk_cell BKv1.out 4).trans rfl
     have hfzv26 := blk_frozen BKv1.out 0
     have hfzv27 := blk_frozen BKv1.out 1
     have hfzv28 := blk_frozen BKv1.out 2
     have hfzv29 := blk_frozen BKv1.out 3
     have hfzv30 := blk_frozen BKv1.out 4
     have hq1 := Aside0.mk True.intro
     rotate_left
     rw [if_neg cv3] at H
     have c31b0 : (tv6 == 0) = false := beq_eq_false_iff_ne.mpr cv3
     have c31b1 : (tv6 != 0) = true := bne_iff_ne.mpr cv3
     have hq0 := Aside0.mk True.intro
     rotate_left
     all_goals first
       | (clear hq0
          have H' := Aside0.mk H
          clear H
          have hnbz1 := NBv1.out
          have hncz1 := NBv2.out
          have hczz1 : wv3.cell? ⟨gb124, 0, none⟩ = some (.int .i64 t116) := (blk_cell BK124.out 0).trans rfl
          have hczz2 : wv3.cell? ⟨gb124, 1, none⟩ = some (.int .i64 t117) := (blk_cell BK124.out 1).trans rfl
          have hczz3 : wv3.cell? ⟨gb124, 2, none⟩ = some (.int .i64 t118) := (blk_cell BK124.out 2).trans rfl
          have hczz4 : wv3.cell? ⟨gb124, 3, none⟩ = some (.int .i64 t119) := (blk_cell BK124.out 3).trans rfl
          have hczz5 : wv3.cell? ⟨gb124, 4, none⟩ = some (.slice Ao10 t120.length co10) := (blk_cell BK124.out 4).trans rfl
          have hfzz1 := blk_frozen BK124.out 0
          have hfzz2 := blk_frozen BK124.out 1
          have hfzz3 := blk_frozen BK124.out 2
          have hfzz4 := blk_frozen BK124.out 3
          have hfzz5 := blk_frozen BK124.out 4
          go_wp2
          go_meet
          case rel => exact ⟨_, (true), (by first | rfl | (simp; done) | (simp [*]; done)), H', ⟨by have := HJ5.out; first | omega | exact Nat.le_refl _⟩, ⟨by (with_reducible repeat (first | apply Kd.R_alloc | apply Kd.R_drewN | apply Kd.R_drew)); exact Kd.R_mono HO_125004.out (fun _ hk => hk.2)⟩, ⟨by (with_reducible repeat (first | apply Kd.R_alloc | apply Kd.R_drewN | apply Kd.R_drew)); exact Kd.R_mono HOv1.out (fun _ hk => hk.2)⟩, ⟨by (with_reducible repeat (first | refine blk_drewN ?_ _ | refine blk_drew ?_ | refine blk_alloc ?_ _)); exact BK124.out⟩, ⟨by (with_reducible repeat (first | refine blk_drewN ?_ _ | refine blk_drew ?_ | refine blk_alloc ?_ _)); exact BKv1.out⟩, ⟨by repeat (first | (with_reducible first | exact HB.out | apply below_alloc | apply pw_below_drewN | apply below_drew1 | refine below_set ?_ GE124.out | refine below_set ?_ GEv1.out) | exact HB.out)⟩⟩)
       | (clear hq1
          go_wp2
          go_meet
          case rel => exact ⟨_, (true), (by first | rfl | (simp; done) | (simp [*]; done)), H', ⟨by have := HJ5.out; first | omega | exact Nat.le_refl _⟩, ⟨by (with_reducible repeat (first | apply Kd.R_alloc | apply Kd.R_drewN | apply Kd.R_drew)); exact Kd.R_mono HO_125004.out (fun _ hk => hk.2)⟩, ⟨by (with_reducible repeat (first | apply Kd.R_alloc | apply Kd.R_drewN | apply Kd.R_drew)); exact Kd.R_mono HOv1.out (fun _ hk => hk.2)⟩, ⟨by (with_reducible repeat (first | refine blk_drewN ?_ _ | refine blk_drew ?_ | refine blk_alloc ?_ _)); exact BK124.out⟩, ⟨by (with_reducible repeat (first | refine blk_drewN ?_ _ | refine blk_drew ?_ | refine blk_alloc ?_ _)); exact BKv1.out⟩, ⟨by repeat (first | (with_reducible first | exact HB.out | apply below_alloc | apply pw_below_drewN | apply below_drew1 | refine below_set ?_ GE124.out | refine below_set ?_ GEv1.out) | exact HB.out)⟩⟩)
    case rest =>
     clear HCv2
     try clear c1
     try clear cv5
     try clear p2
     try clear cv6
     try clear c4
     try clear c11
     try clear c11b0
     try clear c11b1
     try clear c13
     try clear cv1
     try clear c16b0
     try clear c16b1
     try clear cv7
     try clear cv2
     try clear c28b0
     try clear c28b1
     try clear cv8
     try clear cv3
     try clear c31b0
     try clear c31b1
     try clear cv4
     try clear c32b0
     try clear c32b1
     try clear cv9
     try clear cv10
     try clear cv11
     try clear hcz12_0
     try clear hcz12_1
     try clear hcz12_2
     try clear hcz12_3
     try clear hcz12_4
     try clear hczv1
     try clear hczv2
     try clear hczv3
     try clear hczv4
     try clear hczv5
     try clear hczv6
     try clear hczv7
     try clear hczv8
     try clear hczv9
     try clear hczv10
     try clear hczv11
     try clear hczv12
     try clear hczv13
     try clear hczv14
     try clear hczv15
     try clear hczv16
     try clear hczv17
     try clear hczv18
     try clear hczv19
     try clear hczv20
     try clear hczv21
     try clear hczv22
     try clear hczv23
     try clear hczv24
     try clear hczv25
     try clear hczv26
     try clear hczv27
     try clear hczv28
     try clear hczv29
     try clear hczv30
     try clear hczv31
     try clear hczv32
     try clear hczv33
     try clear hczv34
     try clear hczv35
     try clear hczv36
     try clear hczv37
     try clear hczv38
     try clear hczv39
     try clear hczv40
     try clear hczv41
     try clear hczv42
     try clear hczv43
     try clear hczv44
     try clear hczv45
     try clear hczv46
     try clear hczv47
     try clear hczv48
     try clear hczv49
     try clear hczv50
     try clear hcz9_0
     try clear hcz9_1
     try clear hcz9_2
     try clear hcz9_3
     try clear hcz9_4
     try clear hfz12_0
     try clear hfz12_1
     try clear hfz12_2
     try clear hfz12_3
     try clear hfz12_4
     try clear hfzv1
     try clear hfzv2
     try clear hfzv3
     try clear hfzv4
     try clear hfzv5
     try clear hfzv6
     try clear hfzv7
     try clear hfzv8
     try clear hfzv9
     try clear hfzv10
     try clear hfzv11
     try clear hfzv12
     try clear hfzv13
     try clear hfzv14
     try clear hfzv15
     try clear hfzv16
     try clear hfzv17
     try clear hfzv18
     try clear hfzv19
     try clear hfzv20
     try clear hfzv21
     try clear hfzv22
     try clear hfzv23
     try clear hfzv24
     try clear hfzv25
     try clear hfzv26
     try clear hfzv27
     try clear hfzv28
     try clear hfzv29
     try clear hfzv30
     try clear hfzv31
     try clear hfzv32
     try clear hfzv33
     try clear hfzv34
     try clear hfzv35
     try clear hfzv36
     try clear hfzv37
     try clear hfzv38
     try clear hfzv39
     try clear hfzv40
     try clear hfzv41
     try clear hfzv42
     try clear hfzv43
     try clear hfzv44
     try clear hfzv45
     try clear hfzv46
     try clear hfzv47
     try clear hfzv48
     try clear hfzv49
     try clear hfzv50
     try clear hfz9_0
     try clear hfz9_1
     try clear hfz9_2
     try clear hfz9_3
     try clear hfz9_4
     try clear p2
     obtain ⟨kq, xv1, rfl, HA, HJv1, HO_125004, HO_134004, BK124, BKv1, HB⟩ := hcut
     cases kq with
     | zero => exact absurd HA.out (by simp [lamplighterref15_Down.j1])
     | succ kjv1 =>
      have H := HA.out
      clear HA
      simp only [lamplighterref15_Down.j1] at H
      by_cases cv12 : xv1 = true
      subst cv12
      have Hv1 : (some (0, 90)) = some (r1, r2) := by rw [if_pos rfl] at H; exact H
      clear H
      have H := Hv1
      clear Hv1
      simp only [Option.some.injEq, Prod.mk.injEq] at H
      obtain ⟨rfl, rfl⟩ := H
      have hq0 := Aside0.mk True.intro
      rotate_left
      replace cv12 := Bool.eq_false_iff.mpr cv12
      subst cv12
      have Hv1 : (if ((Op.bytesLess a2.toList tv7.toList) = true) then (lamplighterref15_Down.j2 kjv1 l0 a1 a2 a3 t116 t117 t118 t119 t120) else (some (t118, 0))) = some (r1, r2) := by rw [if_neg (show ¬ (false = true) by decide)] at H; exact H
      clear H
      have H := Hv1
      clear Hv1
      by_cases cv13 : ((Op.bytesLess a2.toList tv7.toList) = true)
      · rw [if_pos cv13] at H
        have c42b0 : (Op.bytesLess a2.toList tv7.toList) = true := cv13
        clear cv13
        have H' := Aside0.mk H
        clear H
        go_wp2
        go_meet
        case rel => exact ⟨_, H', ⟨by have := HJ5.out; have := HJv1.out; first | omega | exact Nat.le_refl _⟩, ⟨by (with_reducible repeat (first | apply Kd.R_alloc | apply Kd.R_drewN | apply Kd.R_drew)); exact Kd.R_mono HO_125004.out (fun _ hk => trivial)⟩, ⟨by (with_reducible repeat (first | refine blk_drewN ?_ _ | refine blk_drew ?_ | refine blk_alloc ?_ _)); exact BK124.out⟩, ⟨by repeat (first | (with_reducible first | exact HB.out | apply below_alloc | apply pw_below_drewN | apply below_drew1 | refine below_set ?_ GE124.out | refine below_set ?_ GEv1.out) | exact HB.out)⟩⟩
      rw [if_neg cv13] at H
      have c42b0 : (Op.bytesLess a2.toList tv7.toList) = false := by simpa using cv13
      clear cv13
      simp only [Option.some.injEq, Prod.mk.injEq] at H
      obtain ⟨rfl, rfl⟩ := H
      have hnbv6 := NBv1.out
      have hncv6 := NBv2.out
      have hczv51 : wc.cell? ⟨gb124, 0, none⟩ = some (.int .i64 t116) := (blk_cell BK124.out 0).trans rfl
      have hczv52 : wc.cell? ⟨gb124, 1, none⟩ = some (.int .i64 t117) := (blk_cell BK124.out 1).trans rfl
      have hczv53 : wc.cell? ⟨gb124, 2, none⟩ = some (.int .i64 t118) := (blk_cell BK124.out 2).trans rfl
      have hczv54 : wc.cell? ⟨gb124, 3, none⟩ = some (.int .i64 t119) := (blk_cell BK124.out 3).trans rfl
      have hczv55 : wc.cell? ⟨gb124, 4, none⟩ = some (.slice Ao10 t120.length co10) := (blk_cell BK124.out 4).trans rfl
      have hfzv51 := blk_frozen BK124.out 0
      have hfzv52 := blk_frozen BK124.out 1
      have hfzv53 := blk_frozen BK124.out 2
      have hfzv54 := blk_frozen BK124.out 3
      have hfzv55 := blk_frozen BK124.out 4
      have hq0 := Aside0.mk True.intro
      rotate_left
      all_goals first
        | (clear hq0
           go_wp2
           go_ret2
           exact ⟨by first | rfl | (simp [errW_none, errW_some] <;> rfl) | (simp [*, errW_none, errW_some] <;> rfl), by repeat (first | (with_reducible first | exact HB.out | apply below_alloc | apply pw_below_drewN | apply below_drew1 | refine below_set ?_ GE124.out | refine below_set ?_ GEv1.out) | exact HB.out)⟩)
   case rest =>
    clear HCv1
    try clear c1
    try clear cv5
    try clear p2
    try clear cv6
    try clear c4
    try clear c11
    try clear c11b0
    try clear c11b1
    try clear c13
    try clear cv1
    try clear c16b0
    try clear c16b1
    try clear cv7
    try clear cv2
    try clear c28b0
    try clear c28b1
    try clear cv8
    try clear cv3
    try clear c31b0
    try clear c31b1
    try clear cv4
    try clear c32b0
    try clear c32b1
    try clear cv9
    try clear cv10
    try clear cv11
    try clear cv12
    try clear cv13
    try clear c42b0
    try clear cv14
    try clear hcz12_0
    try clear hcz12_1
    try clear hcz12_2
    try clear hcz12_3
    try clear hcz12_4
    try clear hczv1
    try clear hczv2
    try clear hczv3
    try clear hczv4
    try clear hczv5
    try clear hczv6
    try clear hczv7
    try clear hczv8
    try clear hczv9
    try clear hczv10
    try clear hczv11
    try clear hczv12
    try clear hczv13
    try clear hczv14
    try clear hczv15
    try clear hczv16
    try clear hczv17
    try clear hczv18
    try clear hczv19
    try clear hczv20
    try clear hczv21
    try clear hczv22
    try clear hczv23
    try clear hczv24
    try clear hczv25
    try clear hczv26
    try clear hczv27
    try clear hczv28
    try clear hczv29
    try clear hczv30
    try clear hczv31
    try clear hczv32
    try clear hczv33
    try clear hczv34
    try clear hczv35
    try clear hczv36
    try clear hczv37
    try clear hczv38
    try clear hczv39
    try clear hczv40
    try clear hczv41
    try clear hczv42
    try clear hczv43
    try clear hczv44
    try clear hczv45
    try clear hczv46
    try clear hczv47
    try clear hczv48
    try clear hczv49
    try clear hczv50
    try clear hczv51
    try clear hczv52
    try clear hczv53
    try clear hczv54
    try clear hczv55
    try clear hcz9_0
    try clear hcz9_1
    try clear hcz9_2
    try clear hcz9_3
    try clear hcz9_4
    try clear hfz12_0
    try clear hfz12_1
    try clear hfz12_2
    try clear hfz12_3
    try clear hfz12_4
    try clear hfzv1
    try clear hfzv2
    try clear hfzv3
    try clear hfzv4
    try clear hfzv5
    try clear hfzv6
    try clear hfzv7
    try clear hfzv8
    try clear hfzv9
    try clear hfzv10
    try clear hfzv11
    try clear hfzv12
    try clear hfzv13
    try clear hfzv14
    try clear hfzv15
    try clear hfzv16
    try clear hfzv17
    try clear hfzv18
    try clear hfzv19
    try clear hfzv20
    try clear hfzv21
    try clear hfzv22
    try clear hfzv23
    try clear hfzv24
    try clear hfzv25
    try clear hfzv26
    try clear hfzv27
    try clear hfzv28
    try clear hfzv29
    try clear hfzv30
    try clear hfzv31
    try clear hfzv32
    try clear hfzv33
    try clear hfzv34
    try clear hfzv35
    try clear hfzv36
    try clear hfzv37
    try clear hfzv38
    try clear hfzv39
    try clear hfzv40
    try clear hfzv41
    try clear hfzv42
    try clear hfzv43
    try clear hfzv44
    try clear hfzv45
    try clear hfzv46
    try clear hfzv47
    try clear hfzv48
    try clear hfzv49
    try clear hfzv50
    try clear hfzv51
    try clear hfzv52
    try clear hfzv53
    try clear hfzv54
    try clear hfzv55
    try clear hfz9_0
    try clear hfz9_1
    try clear hfz9_2
    try clear hfz9_3
    try clear hfz9_4
    try clear p2
    obtain ⟨kq, HA, HJv2, HO_125004, BK124, HB⟩ := hcut
    cases kq with
    | zero => exact absurd HA.out (by simp [lamplighterref15_Down.j2])
    | succ kjv2 =>
     have H := HA.out
     clear HA
     simp only [lamplighterref15_Down.j2] at H
     by_cases cv15 : t116 = a3
     · rw [if_pos cv15] at H
       have c45b0 : (t116 == a3) = true := beq_iff_eq.mpr cv15
       have c45b1 : (t116 != a3) = false := bne_eq_false_iff_eq.mpr cv15
       clear cv15
       simp only [Option.some.injEq, Prod.mk.injEq] at H
       obtain ⟨rfl, rfl⟩ := H
       have hczv56 : wc.cell? ⟨gb124, 0, none⟩ = some (.int .i64 t116) := (blk_cell BK124.out 0).trans rfl
       have hczv57 : wc.cell? ⟨gb124, 1, none⟩ = some (.int .i64 t117) := (blk_cell BK124.out 1).trans rfl
       have hczv58 : wc.cell? ⟨gb124, 2, none⟩ = some (.int .i64 t118) := (blk_cell BK124.out 2).trans rfl
       have hczv59 : wc.cell? ⟨gb124, 3, none⟩ = some (.int .i64 t119) := (blk_cell BK124.out 3).trans rfl
       have hczv60 : wc.cell? ⟨gb124, 4, none⟩ = some (.slice Ao10 t120.length co10) := (blk_cell BK124.out 4).trans rfl
       have hfzv56 := blk_frozen BK124.out 0
       have hfzv57 := blk_frozen BK124.out 1
       have hfzv58 := blk_frozen BK124.out 2
       have hfzv59 := blk_frozen BK124.out 3
       have hfzv60 := blk_frozen BK124.out 4
       go_wp2
       go_ret2
       exact ⟨by first | rfl | (simp [errW_none, errW_some] <;> rfl) | (simp [*, errW_none, errW_some] <;> rfl), by repeat (first | (with_reducible first | exact HB.out | apply below_alloc | apply pw_below_drewN | apply below_drew1 | refine below_set ?_ GE124.out) | exact HB.out)⟩
     rw [if_neg cv15] at H
     have c45b0 : (t116 == a3) = false := beq_eq_false_iff_ne.mpr cv15
     have c45b1 : (t116 != a3) = true := bne_iff_ne.mpr cv15
     have H' := Aside0.mk H
     clear H
     have hczv56 : wc.cell? ⟨gb124, 0, none⟩ = some (.int .i64 t116) := (blk_cell BK124.out 0).trans rfl
     have hczv57 : wc.cell? ⟨gb124, 1, none⟩ = some (.int .i64 t117) := (blk_cell BK124.out 1).trans rfl
     have hczv58 : wc.cell? ⟨gb124, 2, none⟩ = some (.int .i64 t118) := (blk_cell BK124.out 2).trans rfl
     have hczv59 : wc.cell? ⟨gb124, 3, none⟩ = some (.int .i64 t119) := (blk_cell BK124.out 3).trans rfl
     have hczv60 : wc.cell? ⟨gb124, 4, none⟩ = some (.slice Ao10 t120.length co10) := (blk_cell BK124.out 4).trans rfl
     have hfzv56 := blk_frozen BK124.out 0
     have hfzv57 := blk_frozen BK124.out 1
     have hfzv58 := blk_frozen BK124.out 2
     have hfzv59 := blk_frozen BK124.out 3
     have hfzv60 := blk_frozen BK124.out 4
     go_wp2
     go_loopg [16, 17] kjv2 (fun kq vvv1 vvv2 w' => ∃ (xv2 : Int) (xv3 : Int), vvv1 = .int .i64 xv2 ∧ vvv2 = .int .i64 xv3 ∧ Aside0 (lamplighterref15_Down.l0 kq l0 a2 xv2 xv3 t116 t117 t118 t119 t120 = some (r1, r2)) ∧ Aside0 (kq ≤ kjv2) ∧ Aside0 (Kd.R (Kd.int .i64) 3 w' w.heap.size (fun _ => True) (.slice Ao10 t120.length co10) t120) ∧ Aside0 (w'.heap[gb124]? = some (.cells #[.int .i64 t116, .int .i64 t117, .int .i64 t118, .int .i64 t119, (.slice Ao10 t120.length co10)] 24 (0, 0))) ∧ Aside0 (Below w.heap.size w w'))
     case atStart => exact ⟨(0), (0), (by first | rfl | (simp; done) | (simp [*]; done)), (by first | rfl | (simp; done) | (simp [*]; done)), H', ⟨Nat.le_refl _⟩, ⟨by (with_reducible repeat (first | apply Kd.R_alloc | apply Kd.R_drewN | apply Kd.R_drew)); exact HO_125004.out⟩, ⟨by (with_reducible repeat (first | refine blk_drewN ?_ _ | refine blk_drew ?_ | refine blk_alloc ?_ _)); exact BK124.out⟩, ⟨by repeat (first | (with_reducible first | exact HB.out | apply below_alloc | apply pw_below_drewN | apply below_drew1 | refine below_set ?_ GE124.out) | exact HB.out)⟩⟩
     case round =>
      clear H'
      try clear c1
      try clear cv5
      try clear p2
      try clear cv6
      try clear c4
      try clear c11
      try clear c11b0
      try clear c11b1
      try clear c13
      try clear cv1
      try clear c16b0
      try clear c16b1
      try clear cv7
      try clear cv2
      try clear c28b0
      try clear c28b1
      try clear cv8
      try clear cv3
      try clear c31b0
      try clear c31b1
      try clear cv4
      try clear c32b0
      try clear c32b1
      try clear cv9
      try clear cv10
      try clear cv11
      try clear cv12
      try clear cv13
      try clear c42b0
      try clear cv14
      try clear cv15
      try clear c45b0
      try clear c45b1
      try clear hcz12_0
      try clear hcz12_1
      try clear hcz12_2
      try clear hcz12_3
      try clear hcz12_4
      try clear hczv1
      try clear hczv2
      try clear hczv3
      try clear hczv4
      try clear hczv5
      try clear hczv6
      try clear hczv7
      try clear hczv8
      try clear hczv9
      try clear hczv10
      try clear hczv11
      try clear hczv12
      try clear hczv13
      try clear hczv14
      try clear hczv15
      try clear hczv16
      try clear hczv17
      try clear hczv18
      try clear hczv19
      try clear hczv20
      try clear hczv21
      try clear hczv22
      try clear hczv23
      try clear hczv24
      try clear hczv25
      try clear hczv26
      try clear hczv27
      try clear hczv28
      try clear hczv29
      try clear hczv30
      try clear hczv31
      try clear hczv32
      try clear hczv33
      try clear hczv34
      try clear hczv35
      try clear hczv36
      try clear hczv37
      try clear hczv38
      try clear hczv39
      try clear hczv40
      try clear hczv41
      try clear hczv42
      try clear hczv43
      try clear hczv44
      try clear hczv45
      try clear hczv46
      try clear hczv47
      try clear hczv48
      try clear hczv49
      try clear hczv50
      try clear hczv51
      try clear hczv52
      try clear hczv53
      try clear hczv54
      try clear hczv55
      try clear hczv61
      try clear hczv62
      try clear hczv63
      try clear hczv64
      try clear hczv65
      try clear hczv56
      try clear hczv57
      try clear hczv58
      try clear hczv59
      try clear hczv60
      try clear hcz9_0
      try clear hcz9_1
      try clear hcz9_2
      try clear hcz9_3
      try clear hcz9_4
      try clear hfz12_0
      try clear hfz12_1
      try clear hfz12_2
      try clear hfz12_3
      try clear hfz12_4
      try clear hfzv1
      try clear hfzv2
      try clear hfzv3
      try clear hfzv4
      try clear hfzv5
      try clear hfzv6
      try clear hfzv7
      try clear hfzv8
      try clear hfzv9
      try clear hfzv10
      try clear hfzv11
      try clear hfzv12
      try clear hfzv13
      try clear hfzv14
      try clear hfzv15
      try clear hfzv16
      try clear hfzv17
      try clear hfzv18
      try clear hfzv19
      try clear hfzv20
      try clear hfzv21
      try clear hfzv22
      try clear hfzv23
      try clear hfzv24
      try clear hfzv25
      try clear hfzv26
      try clear hfzv27
      try clear hfzv28
      try clear hfzv29
      try clear hfzv30
      try clear hfzv31
      try clear hfzv32
      try clear hfzv33
      try clear hfzv34
      try clear hfzv35
      try clear hfzv36
      try clear hfzv37
      try clear hfzv38
      try clear hfzv39
      try clear hfzv40
      try clear hfzv41
      try clear hfzv42
      try clear hfzv43
      try clear hfzv44
      try clear hfzv45
      try clear hfzv46
      try clear hfzv47
      try clear hfzv48
      try clear hfzv49
      try clear hfzv50
      try clear hfzv51
      try clear hfzv52
      try clear hfzv53
      try clear hfzv54
      try clear hfzv55
      try clear hfzv61
      try clear hfzv62
      try clear hfzv63
      try clear hfzv64
      try clear hfzv65
      try clear hfzv56
      try clear hfzv57
      try clear hfzv58
      try clear hfzv59
      try clear hfzv60
      try clear hfz9_0
      try clear hfz9_1
      try clear hfz9_2
      try clear hfz9_3
      try clear hfz9_4
      try clear p2
      obtain ⟨xv2, xv3, rfl, rfl, HA, HKv1, HO_125004, BK124, HB⟩ := hrel
      cases gk with
      | zero => exact absurd HA.out (by simp [lamplighterref15_Down.l0])
      | succ kv1 =>
       have H := HA.out
       clear HA
       simp only [lamplighterref15_Down.l0] at H
       by_cases cv16 : xv3 < (t120.length : Int)
       rw [if_pos cv16] at H
       have c48b0 : decide (xv3 < (t120.length : Int)) = true := decide_eq_true cv16
       clear cv16
       by_cases cv17 : 0 ≤ xv3
       rw [if_pos cv17] at H
       have c49b0 : decide (0 ≤ xv3) = true := decide_eq_true cv17
       clear cv17
       replace H := Option.bind_eq_some_iff.mp H
       obtain ⟨⟨tv9, tv10, tv11, tv12, tv13⟩, Av5, H⟩ := H
       try dsimp only at H
       have A50 := Aside0.mk Av5
       clear Av5
       by_cases cv18 : tv13 = 0
       rw [if_pos cv18] at H
       have c51b0 : (tv13 == 0) = true := beq_iff_eq.mpr cv18
       have c51b1 : (tv13 != 0) = false := bne_eq_false_iff_eq.mpr cv18
       clear cv18
       by_cases cv19 : tv9 = 2
       rw [if_pos cv19] at H
       have c52b0 : (tv9 == 2) = true := beq_iff_eq.mpr cv19
       have c52b1 : (tv9 != 2) = false := bne_eq_false_iff_eq.mpr cv19
       clear cv19
       by_cases cv20 : ((Op.bytesLess a2.toList tv10.toList) = true)
       rw [if_pos cv20] at H
       have c53b0 : (Op.bytesLess a2.toList tv10.toList) = true := cv20
       clear cv20
       have hq0 := Aside0.mk True.intro
       rotate_left
       · rw [if_neg cv20] at H
         have c53b0 : (Op.bytesLess a2.toList tv10.toList) = false := by simpa using cv20
         clear cv20
         have H' := Aside0.mk H
         clear H
         have hczv66 : wr.cell? ⟨gb124, 0, none⟩ = some (.int .i64 t116) := (blk_cell BK124.out 0).trans rfl
         have hczv67 : wr.cell? ⟨gb124, 1, none⟩ = some (.int .i64 t117) := (blk_cell BK124.out 1).trans rfl
         have hczv68 : wr.cell? ⟨gb124, 2, none⟩ = some (.int .i64 t118) := (blk_cell BK124.out 2).trans rfl
         have hczv69 : wr.cell? ⟨gb124, 3, none⟩ = some (.int .i64 t119) := (blk_cell BK124.out 3).trans rfl
         have hczv70 : wr.cell? ⟨gb124, 4, none⟩ = some (.slice Ao10 t120.length co10) := (blk_cell BK124.out 4).trans rfl
         have hfzv66 := blk_frozen BK124.out 0
         have hfzv67 := blk_frozen BK124.out 1
         have hfzv68 := blk_frozen BK124.out 2
         have hfzv69 := blk_frozen BK124.out 3
         have hfzv70 := blk_frozen BK124.out 4
         have pv1 : 0 ≤ (xv3 : Int) := of_decide_eq_true (by first | (with_reducible assumption) | assumption)
         have qv1 : xv3 < (t120.length : Int) := of_decide_eq_true (by first | (with_reducible assumption) | assumption)
         obtain ⟨adv1, ev1, hxv1⟩ := Kd.at_int (Kd.R_reads' HO_125004.out).2.2 xv3 pv1 qv1
         cases ev1
         replace pv1 := eq_true pv1
         replace qv1 := eq_true qv1
         go_wp2_with (first | ((with_reducible refine gate_callee (f := 43) rfl ?_); refine goesL_ (some 98) rfl rfl Try.func43 (by kernel_rfl) rfl #[.slice A0 l0.length c0, .int .i64 (rd t120 xv3)] rfl (by (try simp only [List.map_toArray, List.map_cons, List.map_nil]); first | done | rfl | (simp only [List.length_drop, List.length_take]; rfl)) ?_; (with_reducible refine (lamplighterref07_Read.calls _ _ l0 (rd t120 xv3) tv9 tv10 tv11 tv12 tv13 _ ?side1 ?side2 A50.out).mono ?_); (case side1 => repeat (first | exact (Kd.C_below HR0.out HB.out) | (with_reducible refine Kd.C_alloc ?_ _) | (with_reducible refine Kd.C_drewN ?_ _) | (with_reducible refine Kd.C_drew ?_))); (case side2 => exact HC0.out); rintro e wv4 ⟨rfl, hb⟩; refine ⟨_, rfl, ?_⟩; have n0_ := Aside0.mk (Kd.R_below (by (with_reducible repeat (first | apply Kd.R_alloc | apply Kd.R_drewN | apply Kd.R_drew)); exact HO_125004.out) hb); have n1_ := Aside0.mk (blk_below (g := gb124) (o := .cells #[.int .i64 t116, .int .i64 t117, .int .i64 t118, .int .i64 t119, .slice (some adv1) t120.length co10] 24 (0, 0)) (by (with_reducible repeat (first | refine blk_drewN ?_ _ | refine blk_drew ?_ | refine blk_alloc ?_ _)); exact BK124.out) hb); have n2_ := Aside0.mk (below_step (by repeat (first | (with_reducible first | exact HB.out | apply below_alloc | apply pw_below_drewN | apply below_drew1 | refine below_set ?_ GE124.out) | exact HB.out)) hb); clear HO_125004; clear BK124; clear HB; have HO_125004 := n0_; have BK124 := n1_; have HB := n2_; clear n0_ n1_ n2_; (try clear hb); (try clear hb2); (try clear hk); (try clear hi)) | ((with_reducible refine gate_dst (N := 18) rfl ?_); refine box_event ?hg (N := 18) ?hd (cs := #[.int .i64 0, .string (⟨#[]⟩ : ByteArray), .string (⟨#[]⟩ : ByteArray), .int .i64 0]) (t := 62) ?hr ?_; (case hd => rfl); (case hg => rfl); (case hr => first | (go_simp; done) | (go_simp; rfl)); intro gbv2 hg wv5 hbox hb; have n0_ := Aside0.mk (Kd.R_below (by (with_reducible repeat (first | apply Kd.R_alloc | apply Kd.R_drewN | apply Kd.R_drew)); exact HO_125004.out) hb); have n1_ := Aside0.mk (blk_below (g := gb124) (o := .cells #[.int .i64 t116, .int .i64 t117, .int .i64 t118, .int .i64 t119, .slice (some adv1) t120.length co10] 24 (0, 0)) (by (with_reducible repeat (first | refine blk_drewN ?_ _ | refine blk_drew ?_ | refine blk_alloc ?_ _)); exact BK124.out) hb); have n2_ := Aside0.mk (below_step (by repeat (first | (with_reducible first | exact HB.out | apply below_alloc | apply pw_below_drewN | apply below_drew1 | refine below_set ?_ GE124.out) | exact HB.out)) hb); have n3_ := Aside0.mk (hbox); have n4_ := Aside0.mk ((by rw [hg]; exact (below_size (by repeat (first | (with_reducible first | exact HB.out | apply below_alloc | apply pw_below_drewN | apply below_drew1 | refine below_set ?_ GE124.out) | exact HB.out))) : w.heap.size ≤ gbv2)); have n5_ := Aside0.mk ((by rw [hg]; exact (below_size (by repeat (first | (with_reducible first | exact HB.out | apply below_alloc | apply pw_below_drewN | apply below_drew1 | refine below_set ?_ GE124.out) | exact HB.out))) : w.heap.size ≤ gbv2)); have n6_ := Aside0.mk ((by rw [hg]; exact Nat.ne_of_lt (blk_lt (g := gb124) (o := .cells #[.int .i64 t116, .int .i64 t117, .int .i64 t118, .int .i64 t119, .slice (some adv1) t120.length co10] 24 (0, 0)) (by (with_reducible repeat (first | refine blk_drewN ?_ _ | refine blk_drew ?_ | refine blk_alloc ?_ _)); exact BK124.out)) : gb124 ≠ gbv2)); have n7_ := Aside0.mk ((by rw [hg]; exact Nat.ne_of_gt (blk_lt (g := gb124) (o := .cells #[.int .i64 t116, .int .i64 t117, .int .i64 t118, .int .i64 t119, .slice (some adv1) t120.length co10] 24 (0, 0)) (by (with_reducible repeat (first | refine blk_drewN ?_ _ | refine blk_drew ?_ | refine blk_alloc ?_ _)); exact BK124.out)) : gbv2 ≠ gb124)); clear HO_125004; clear BK124; clear HB; have HO_125004 := n0_; have BK124 := n1_; have HB := n2_; have BKv2 := n3_; have GWv2 := n4_; have GEv2 := n5_; have NBv3 := n6_; have NBv4 := n7_; clear n0_ n1_ n2_ n3_ n4_ n5_ n6_ n7_; clear hb hbox hg; have hnbv7 := NBv4.out; have hncv7 := NBv3.out; have hczv71 : wv5.cell? ⟨gbv2, 0, none⟩ = some (.int .i64 0) := (blk_cell BKv2.out 0).trans rfl; have hczv72 : wv5.cell? ⟨gbv2, 1, none⟩ = some (.string (⟨#[]⟩ : ByteArray)) := (blk_cell BKv2.out 1).trans rfl; have hczv73 : wv5.cell? ⟨gbv2, 2, none⟩ = some (.string (⟨#[]⟩ : ByteArray)) := (blk_cell BKv2.out 2).trans rfl; have hczv74 : wv5.cell? ⟨gbv2, 3, none⟩ = some (.int .i64 0) := (blk_cell BKv2.out 3).trans rfl; have hfzv71 := blk_frozen BKv2.out 0; have hfzv72 := blk_frozen BKv2.out 1; have hfzv73 := blk_frozen BKv2.out 2; have hfzv74 := blk_frozen BKv2.out 3))
         go_roundg kv1
         case measure => have := HJ5.out; have := HJv2.out; have := HKv1.out; omega
         case rel => exact ⟨(tv12), (wrap64 (xv3 + 1)), (by first | rfl | (simp; done) | (simp [*]; done)), (by first | rfl | (simp; done) | (simp [*]; done)), H', ⟨by have := HJ5.out; have := HJv2.out; have := HKv1.out; omega⟩, ⟨by (with_reducible repeat (first | apply Kd.R_alloc | apply Kd.R_drewN | apply Kd.R_drew)); exact Kd.R_mono (Kd.R_far (p := ⟨gbv2, 3, none⟩) (Kd.R_far (p := ⟨gbv2, 2, none⟩) (Kd.R_far (p := ⟨gbv2, 1, none⟩) (Kd.R_far (p := ⟨gbv2, 0, none⟩) (Kd.R_types HO_125004.out BKv2.out (by decide)) (fun _ hk => hk.2) (.int .i64 tv9)) (fun _ hk => hk.2) (.string tv10)) (fun _ hk => hk.2) (.string tv11)) (fun _ hk => hk.2) (.int .i64 tv12)) (fun _ hk => trivial)⟩, ⟨by (with_reducible repeat (first | refine blk_drewN ?_ _ | refine blk_drew ?_ | refine blk_alloc ?_ _)); refine blk_far ?_ NBv3.out _; (with_reducible repeat (first | refine blk_drewN ?_ _ | refine blk_drew ?_ | refine blk_alloc ?_ _)); refine blk_far ?_ NBv3.out _; (with_reducible repeat (first | refine blk_drewN ?_ _ | refine blk_drew ?_ | refine blk_alloc ?_ _)); refine blk_far ?_ NBv3.out _; (with_reducible repeat (first | refine blk_drewN ?_ _ | refine blk_drew ?_ | refine blk_alloc ?_ _)); refine blk_far ?_ NBv3.out _; (with_reducible repeat (first | refine blk_drewN ?_ _ | refine blk_drew ?_ | refine blk_alloc ?_ _)); exact BK124.out⟩, ⟨by repeat (first | (with_reducible first | exact HB.out | apply below_alloc | apply pw_below_drewN | apply below_drew1 | refine below_set ?_ GE124.out | refine below_set ?_ GEv2.out) | exact HB.out)⟩⟩
       rw [if_neg cv19] at H
       have c52b0 : (tv9 == 2) = false := beq_eq_false_iff_ne.mpr cv19
       have c52b1 : (tv9 != 2) = true := bne_iff_ne.mpr cv19
       have hq0 := Aside0.mk True.intro
       rotate_left
       rw [if_neg cv18] at H
       have c51b0 : (tv13 == 0) = false := beq_eq_false_iff_ne.mpr cv18
       have c51b1 : (tv13 != 0) = true := bne_iff_ne.mpr cv18
       have hq0 := Aside0.mk True.intro
       rotate_left
       · rw [if_neg cv17] at H
         exact absurd H (by simp)
       rw [if_neg cv16] at H
       have c48b0 : decide (xv3 < (t120.length : Int)) = false := decide_eq_false cv16
       clear cv16
       replace H := Option.bind_eq_some_iff.mp H
       obtain ⟨⟨tv9, tv10, tv11, tv12, tv13, tv14⟩, Av5, H⟩ := H
       try dsimp only at H
       have Av6 := Aside0.mk Av5
       clear Av5
       replace H := Option.bind_eq_some_iff.mp H
       obtain ⟨⟨tv15, tv16⟩, Av7, H⟩ := H
       try dsimp only at H
       have Av8 := Aside0.mk Av7
       clear Av7
       by_cases cv17 : xv2 = 0
       rw [if_pos cv17] at H
       have c76b0 : (xv2 == 0) = true := beq_iff_eq.mpr cv17
       have c76b1 : (xv2 != 0) = false := bne_eq_false_iff_eq.mpr cv17
       clear cv17
       have hq1 := Aside0.mk True.intro
       rotate_left
       rw [if_neg cv17] at H
       have c76b0 : (xv2 == 0) = false := beq_eq_false_iff_ne.mpr cv17
       have c76b1 : (xv2 != 0) = true := bne_iff_ne.mpr cv17
       by_cases cv18 : tv14 = 0
       rw [if_pos cv18] at H
       have c84b0 : (tv14 == 0) = true := beq_iff_eq.mpr cv18
       have c84b1 : (tv14 != 0) = false := bne_eq_false_iff_eq.mpr cv18
       clear cv18
       by_cases cv19 : tv9 = (wrap64 (t116 - 1))
       rw [if_pos cv19] at H
       have c85b0 : (tv9 == (wrap64 (t116 - 1))) = true := beq_iff_eq.mpr cv19
       have c85b1 : (tv9 != (wrap64 (t116 - 1))) = false := bne_eq_false_iff_eq.mpr cv19
       clear cv19
       by_cases cv20 : tv16 = 0
       rw [if_pos cv20] at H
       have c86b0 : (tv16 == 0) = true := beq_iff_eq.mpr cv20
       have c86b1 : (tv16 != 0) = false := bne_eq_false_iff_eq.mpr cv20
       clear cv20
       by_cases cv21 : (Op.bytesLess a2.toList tv15.toList) = true
       rw [if_pos cv21] at H
       have c87b0 : (Op.bytesLess a2.toList tv15.toList) = true := cv21
       have hq2 := Aside0.mk True.intro
       rotate_left
       rw [if_neg cv21] at H
       have c87b0 : (Op.bytesLess a2.toList tv15.toList) = false := by simpa using cv21
       have hq2 := Aside0.mk True.intro
       rotate_left
       rw [if_neg cv20] at H
       have c86b0 : (tv16 == 0) = false := beq_eq_false_iff_ne.mpr cv20
       have c86b1 : (tv16 != 0) = true := bne_iff_ne.mpr cv20
       have hq3 := Aside0.mk True.intro
       rotate_left
       rw [if_neg cv19] at H
       have c85b0 : (tv9 == (wrap64 (t116 - 1))) = false := beq_eq_false_iff_ne.mpr cv19
       have c85b1 : (tv9 != (wrap64 (t116 - 1))) = true := bne_iff_ne.mpr cv19
       have hq3 := Aside0.mk True.intro
       rotate_left
       rw [if_neg cv18] at H
       have c84b0 : (tv14 == 0) = false := beq_eq_false_iff_ne.mpr cv18
       have c84b1 : (tv14 != 0) = true := bne_iff_ne.mpr cv18
       have hq1 := Aside0.mk True.intro
       rotate_left
       all_goals first
         | (clear hq0
            have H' := Aside0.mk H
            clear H
            have hczz1 : wr.cell? ⟨gb124, 0, none⟩ = some (.int .i64 t116) := (blk_cell BK124.out 0).trans rfl
            have hczz2 : wr.cell? ⟨gb124, 1, none⟩ = some (.int .i64 t117) := (blk_cell BK124.out 1).trans rfl
            have hczz3 : wr.cell? ⟨gb124, 2, none⟩ = some (.int .i64 t118) := (blk_cell BK124.out 2).trans rfl
            have hczz4 : wr.cell? ⟨gb124, 3, none⟩ = some (.int .i64 t119) := (blk_cell BK124.out 3).trans rfl
            have hczz5 : wr.cell? ⟨gb124, 4, none⟩ = some (.slice Ao10 t120.length co10) := (blk_cell BK124.out 4).trans rfl
            have hfzz1 := blk_frozen BK124.out 0
            have hfzz2 := blk_frozen BK124.out 1
            have hfzz3 := blk_frozen BK124.out 2
            have hfzz4 := blk_frozen BK124.out 3
            have hfzz5 := blk_frozen BK124.out 4
            have pz1 : 0 ≤ (xv3 : Int) := of_decide_eq_true (by first | (with_reducible assumption) | assumption)
            have qz1 : xv3 < (t120.length : Int) := of_decide_eq_true (by first | (with_reducible assumption) | assumption)
            obtain ⟨adz1, ez1, hxz1⟩ := Kd.at_int (Kd.R_reads' HO_125004.out).2.2 xv3 pz1 qz1
            cases ez1
            replace pz1 := eq_true pz1
            replace qz1 := eq_true qz1
            go_wp2_with (first | ((with_reducible refine gate_callee (f := 43) rfl ?_); refine goesL_ (some 98) rfl rfl Try.func43 (by kernel_rfl) rfl #[.slice A0 l0.length c0, .int .i64 (rd t120 xv3)] rfl (by (try simp only [List.map_toArray, List.map_cons, List.map_nil]); first | done | rfl | (simp only [List.length_drop, List.length_take]; rfl)) ?_; (with_reducible refine (lamplighterref07_Read.calls _ _ l0 (rd t120 xv3) tv9 tv10 tv11 tv12 tv13 _ ?side1 ?side2 A50.out).mono ?_); (case side1 => repeat (first | exact (Kd.C_below HR0.out HB.out) | (with_reducible refine Kd.C_alloc ?_ _) | (with_reducible refine Kd.C_drewN ?_ _) | (with_reducible refine Kd.C_drew ?_))); (case side2 => exact HC0.out); rintro e wz1 ⟨rfl, hb⟩; refine ⟨_, rfl, ?_⟩; have n0_ := Aside0.mk (Kd.R_below (by (with_reducible repeat (first | apply Kd.R_alloc | apply Kd.R_drewN | apply Kd.R_drew)); exact HO_125004.out) hb); have n1_ := Aside0.mk (blk_below (g := gb124) (o := .cells #[.int .i64 t116, .int .i64 t117, .int .i64 t118, .int .i64 t119, .slice (some adz1) t120.length co10] 24 (0, 0)) (by (with_reducible repeat (first | refine blk_drewN ?_ _ | refine blk_drew ?_ | refine blk_alloc ?_ _)); exact BK124.out) hb); have n2_ := Aside0.mk (below_step (by repeat (first | (with_reducible first | exact HB.out | apply below_alloc | apply pw_below_drewN | apply below_drew1 | refine below_set ?_ GE124.out) | exact HB.out)) hb); clear HO_125004; clear BK124; clear HB; have HO_125004 := n0_; have BK124 := n1_; have HB := n2_; clear n0_ n1_ n2_; (try clear hb); (try clear hb2); (try clear hk); (try clear hi)) | ((with_reducible refine gate_dst (N := 18) rfl ?_); refine box_event ?hg (N := 18) ?hd (cs := #[.int .i64 0, .string (⟨#[]⟩ : ByteArray), .string (⟨#[]⟩ : ByteArray), .int .i64 0]) (t := 62) ?hr ?_; (case hd => rfl); (case hg => rfl); (case hr => first | (go_simp; done) | (go_simp; rfl)); intro gbz1 hg wz2 hbox hb; have n0_ := Aside0.mk (Kd.R_below (by (with_reducible repeat (first | apply Kd.R_alloc | apply Kd.R_drewN | apply Kd.R_drew)); exact HO_125004.out) hb); have n1_ := Aside0.mk (blk_below (g := gb124) (o := .cells #[.int .i64 t116, .int .i64 t117, .int .i64 t118, .int .i64 t119, .slice (some adz1) t120.length co10] 24 (0, 0)) (by (with_reducible repeat (first | refine blk_drewN ?_ _ | refine blk_drew ?_ | refine blk_alloc ?_ _)); exact BK124.out) hb); have n2_ := Aside0.mk (below_step (by repeat (first | (with_reducible first | exact HB.out | apply below_alloc | apply pw_below_drewN | apply below_drew1 | refine below_set ?_ GE124.out) | exact HB.out)) hb); have n3_ := Aside0.mk (hbox); have n4_ := Aside0.mk ((by rw [hg]; exact (below_size (by repeat (first | (with_reducible first | exact HB.out | apply below_alloc | apply pw_below_drewN | apply below_drew1 | refine below_set ?_ GE124.out) | exact HB.out))) : w.heap.size ≤ gbz1)); have n5_ := Aside0.mk ((by rw [hg]; exact (below_size (by repeat (first | (with_reducible first | exact HB.out | apply below_alloc | apply pw_below_drewN | apply below_drew1 | refine below_set ?_ GE124.out) | exact HB.out))) : w.heap.size ≤ gbz1)); have n6_ := Aside0.mk ((by rw [hg]; exact Nat.ne_of_lt (blk_lt (g := gb124) (o := .cells #[.int .i64 t116, .int .i64 t117, .int .i64 t118, .int .i64 t119, .slice (some adz1) t120.length co10] 24 (0, 0)) (by (with_reducible repeat (first | refine blk_drewN ?_ _ | refine blk_drew ?_ | refine blk_alloc ?_ _)); exact BK124.out)) : gb124 ≠ gbz1)); have n7_ := Aside0.mk ((by rw [hg]; exact Nat.ne_of_gt (blk_lt (g := gb124) (o := .cells #[.int .i64 t116, .int .i64 t117, .int .i64 t118, .int .i64 t119, .slice (some adz1) t120.length co10] 24 (0, 0)) (by (with_reducible repeat (first | refine blk_drewN ?_ _ | refine blk_drew ?_ | refine blk_alloc ?_ _)); exact BK124.out)) : gbz1 ≠ gb124)); clear HO_125004; clear BK124; clear HB; have HO_125004 := n0_; have BK124 := n1_; have HB := n2_; have BKz1 := n3_; have GWz1 := n4_; have GEz1 := n5_; have NBz1 := n6_; have NBz2 := n7_; clear n0_ n1_ n2_ n3_ n4_ n5_ n6_ n7_; clear hb hbox hg; have hnbz1 := NBz2.out; have hncz1 := NBz1.out; have hczz6 : wz2.cell? ⟨gbz1, 0, none⟩ = some (.int .i64 0) := (blk_cell BKz1.out 0).trans rfl; have hczz7 : wz2.cell? ⟨gbz1, 1, none⟩ = some (.string (⟨#[]⟩ : ByteArray)) := (blk_cell BKz1.out 1).trans rfl; have hczz8 : wz2.cell? ⟨gbz1, 2, none⟩ = some (.string (⟨#[]⟩ : ByteArray)) := (blk_cell BKz1.out 2).trans rfl; have hczz9 : wz2.cell? ⟨gbz1, 3, none⟩ = some (.int .i64 0) := (blk_cell BKz1.out 3).trans rfl; have hfzz6 := blk_frozen BKz1.out 0; have hfzz7 := blk_frozen BKz1.out 1; have hfzz8 := blk_frozen BKz1.out 2; have hfzz9 := blk_frozen BKz1.out 3))
            go_roundg kv1
            case measure => have := HJ5.out; have := HJv2.out; have := HKv1.out; omega
            case rel => exact ⟨(xv2), (wrap64 (xv3 + 1)), (by first | rfl | (simp; done) | (simp [*]; done)), (by first | rfl | (simp; done) | (simp [*]; done)), H', ⟨by have := HJ5.out; have := HJv2.out; have := HKv1.out; omega⟩, ⟨by (with_reducible repeat (first | apply Kd.R_alloc | apply Kd.R_drewN | apply Kd.R_drew)); exact Kd.R_mono (Kd.R_far (p := ⟨gbz1, 3, none⟩) (Kd.R_far (p := ⟨gbz1, 2, none⟩) (Kd.R_far (p := ⟨gbz1, 1, none⟩) (Kd.R_far (p := ⟨gbz1, 0, none⟩) (Kd.R_types HO_125004.out BKz1.out (by decide)) (fun _ hk => hk.2) (.int .i64 tv9)) (fun _ hk => hk.2) (.string tv10)) (fun _ hk => hk.2) (.string tv11)) (fun _ hk => hk.2) (.int .i64 tv12)) (fun _ hk => trivial)⟩, ⟨by (with_reducible repeat (first | refine blk_drewN ?_ _ | refine blk_drew ?_ | refine blk_alloc ?_ _)); refine blk_far ?_ NBz1.out _; (with_reducible repeat (first | refine blk_drewN ?_ _ | refine blk_drew ?_ | refine blk_alloc ?_ _)); refine blk_far ?_ NBz1.out _; (with_reducible repeat (first | refine blk_drewN ?_ _ | refine blk_drew ?_ | refine blk_alloc ?_ _)); refine blk_far ?_ NBz1.out _; (with_reducible repeat (first | refine blk_drewN ?_ _ | refine blk_drew ?_ | refine blk_alloc ?_ _)); refine blk_far ?_ NBz1.out _; (with_reducible repeat (first | refine blk_drewN ?_ _ | refine blk_drew ?_ | refine blk_alloc ?_ _)); exact BK124.out⟩, ⟨by repeat (first | (with_reducible first | exact HB.out | apply below_alloc | apply pw_below_drewN | apply below_drew1 | refine below_set ?_ GE124.out | refine below_set ?_ GEz1.out) | exact HB.out)⟩⟩)
         | (clear hq1
            simp only [Option.some.injEq, Prod.mk.injEq] at H
            obtain ⟨rfl, rfl⟩ := H
            have hczz1 : wr.cell? ⟨gb124, 0, none⟩ = some (.int .i64 t116) := (blk_cell BK124.out 0).trans rfl
            have hczz2 : wr.cell? ⟨gb124, 1, none⟩ = some (.int .i64 t117) := (blk_cell BK124.out 1).trans rfl
            have hczz3 : wr.cell? ⟨gb124, 2, none⟩ = some (.int .i64 t118) := (blk_cell BK124.out 2).trans rfl
            have hczz4 : wr.cell? ⟨gb124, 3, none⟩ = some (.int .i64 t119) := (blk_cell BK124.out 3).trans rfl
            have hczz5 : wr.cell? ⟨gb124, 4, none⟩ = some (.slice Ao10 t120.length co10) := (blk_cell BK124.out 4).trans rfl
            have hfzz1 := blk_frozen BK124.out 0
            have hfzz2 := blk_frozen BK124.out 1
            have hfzz3 := blk_frozen BK124.out 2
            have hfzz4 := blk_frozen BK124.out 3
            have hfzz5 := blk_frozen BK124.out 4
            go_wp2_with (first | ((with_reducible refine gate_callee (f := 41) rfl ?_); refine goesL_ (some 119) rfl rfl Try.func41 (by kernel_rfl) rfl #[.slice A0 l0.length c0, .int .i64 xv2] rfl (by (try simp only [List.map_toArray, List.map_cons, List.map_nil]); first | done | rfl | (simp only [List.length_drop, List.length_take]; rfl)) ?_; (with_reducible refine (lamplighterref09_Read.calls _ _ l0 xv2 tv9 tv10 tv11 tv12 tv13 tv14 _ ?side1 ?side2 Av6.out).mono ?_); (case side1 => repeat (first | exact (Kd.C_below HR0.out HB.out) | (with_reducible refine Kd.C_alloc ?_ _) | (with_reducible refine Kd.C_drewN ?_ _) | (with_reducible refine Kd.C_drew ?_))); (case side2 => exact HC0.out); rintro e wz1 ⟨vvvz1, rfl, ho0, hb⟩; refine ⟨_, rfl, ?_⟩; have n0_ := Aside0.mk (Kd.R_elder' (by (with_reducible repeat (first | apply Kd.R_alloc | apply Kd.R_drewN | apply Kd.R_drew)); exact HO_125004.out) (Kd.R_base ho0) hb); have n1_ := Aside0.mk (Kd.R_lower (Kd.R_new' ho0 (Kd.R_lt (by (with_reducible repeat (first | apply Kd.R_alloc | apply Kd.R_drewN | apply Kd.R_drew)); exact HO_125004.out))) (below_size (by repeat (first | (with_reducible first | exact HB.out | apply below_alloc | apply pw_below_drewN | apply below_drew1 | refine below_set ?_ GE124.out) | exact HB.out)))); have n2_ := Aside0.mk (blk_below (g := gb124) (o := .cells #[.int .i64 t116, .int .i64 t117, .int .i64 t118, .int .i64 t119, .slice Ao10 t120.length co10] 24 (0, 0)) (by (with_reducible repeat (first | refine blk_drewN ?_ _ | refine blk_drew ?_ | refine blk_alloc ?_ _)); exact BK124.out) hb); have n3_ := Aside0.mk (below_step (by repeat (first | (with_reducible first | exact HB.out | apply below_alloc | apply pw_below_drewN | apply below_drew1 | refine below_set ?_ GE124.out) | exact HB.out)) hb); clear HO_125004; clear BK124; clear HB; have HO_125004 := n0_; have HOz1 := n1_; have BK124 := n2_; have HB := n3_; clear n0_ n1_ n2_ n3_; (try clear hb); (try clear hb2); (try clear hk); (try clear hi); (try clear ho0)) | ((with_reducible refine gate_dst (N := 20) rfl ?_); refine box_event ?hg (N := 20) ?hd (cs := #[.int .i64 0, .int .i64 0, .int .i64 0, .int .i64 0, .slice none 0 0]) (t := 24) ?hr ?_; (case hd => rfl); (case hg => rfl); (case hr => first | (go_simp; done) | (go_simp; rfl)); intro gbz1 hg wz2 hbox hb; have n0_ := Aside0.mk (Kd.R_below (by (with_reducible repeat (first | apply Kd.R_alloc | apply Kd.R_drewN | apply Kd.R_drew)); exact HO_125004.out) hb); have n1_ := Aside0.mk (Kd.R_below (by (with_reducible repeat (first | apply Kd.R_alloc | apply Kd.R_drewN | apply Kd.R_drew)); exact HOz1.out) hb); have n2_ := Aside0.mk (blk_below (g := gb124) (o := .cells #[.int .i64 t116, .int .i64 t117, .int .i64 t118, .int .i64 t119, .slice Ao10 t120.length co10] 24 (0, 0)) (by (with_reducible repeat (first | refine blk_drewN ?_ _ | refine blk_drew ?_ | refine blk_alloc ?_ _)); exact BK124.out) hb); have n3_ := Aside0.mk (below_step (by repeat (first | (with_reducible first | exact HB.out | apply below_alloc | apply pw_below_drewN | apply below_drew1 | refine below_set ?_ GE124.out) | exact HB.out)) hb); have n4_ := Aside0.mk (hbox); have n5_ := Aside0.mk ((by rw [hg]; exact (below_size (by repeat (first | (with_reducible first | exact HB.out | apply below_alloc | apply pw_below_drewN | apply below_drew1 | refine below_set ?_ GE124.out) | exact HB.out))) : w.heap.size ≤ gbz1)); have n6_ := Aside0.mk ((by rw [hg]; exact (below_size (by repeat (first | (with_reducible first | exact HB.out | apply below_alloc | apply pw_below_drewN | apply below_drew1 | refine below_set ?_ GE124.out) | exact HB.out))) : w.heap.size ≤ gbz1)); have n7_ := Aside0.mk ((by rw [hg]; exact Nat.ne_of_lt (blk_lt (g := gb124) (o := .cells #[.int .i64 t116, .int .i64 t117, .int .i64 t118, .int .i64 t119, .slice Ao10 t120.length co10] 24 (0, 0)) (by (with_reducible repeat (first | refine blk_drewN ?_ _ | refine blk_drew ?_ | refine blk_alloc ?_ _)); exact BK124.out)) : gb124 ≠ gbz1)); have n8_ := Aside0.mk ((by rw [hg]; exact Nat.ne_of_gt (blk_lt (g := gb124) (o := .cells #[.int .i64 t116, .int .i64 t117, .int .i64 t118, .int .i64 t119, .slice Ao10 t120.length co10] 24 (0, 0)) (by (with_reducible repeat (first | refine blk_drewN ?_ _ | refine blk_drew ?_ | refine blk_alloc ?_ _)); exact BK124.out)) : gbz1 ≠ gb124)); clear HO_125004; clear HOz1; clear BK124; clear HB; have HO_125004 := n0_; have HOz1 := n1_; have BK124 := n2_; have HB := n3_; have BKz1 := n4_; have GWz1 := n5_; have GEz1 := n6_; have NBz1 := n7_; have NBz2 := n8_; clear n0_ n1_ n2_ n3_ n4_ n5_ n6_ n7_ n8_; clear hb hbox hg; have hnbz1 := NBz2.out; have hncz1 := NBz1.out; have hczz6 : wz2.cell? ⟨gbz1, 0, none⟩ = some (.int .i64 0) := (blk_cell BKz1.out 0).trans rfl; have hczz7 : wz2.cell? ⟨gbz1, 1, none⟩ = some (.int .i64 0) := (blk_cell BKz1.out 1).trans rfl; have hczz8 : wz2.cell? ⟨gbz1, 2, none⟩ = some (.int .i64 0) := (blk_cell BKz1.out 2).trans rfl; have hczz9 : wz2.cell? ⟨gbz1, 3, none⟩ = some (.int .i64 0) := (blk_cell BKz1.out 3).trans rfl; have hczz10 : wz2.cell? ⟨gbz1, 4, none⟩ = some (.slice none 0 0) := (blk_cell BKz1.out 4).trans rfl; have hfzz6 := blk_frozen BKz1.out 0; have hfzz7 := blk_frozen BKz1.out 1; have hfzz8 := blk_frozen BKz1.out 2; have hfzz9 := blk_frozen BKz1.out 3; have hfzz10 := blk_frozen BKz1.out 4; obtain ⟨Aoz1, coz1, eoz1⟩ := Kd.R_slice HOz1.out; subst eoz1) | ((with_reducible refine gate_callee (f := 42) rfl ?_); refine goesL_ (some 125) rfl rfl Try.func42 (by kernel_rfl) rfl #[.slice A0 l0.length c0, .int .i64 xv2] rfl (by (try simp only [List.map_toArray, List.map_cons, List.map_nil]); first | done | rfl | (simp only [List.length_drop, List.length_take]; rfl)) ?_; (with_reducible refine (lamplighterref11_Low.calls _ _ l0 xv2 tv15 tv16 _ ?side1 ?side2 Av8.out).mono ?_); (case side1 => exact Kd.C_below HR0.out (by repeat (first | (with_reducible first | exact HB.out | apply below_alloc | apply pw_below_drewN | apply below_drew1 | refine below_set ?_ GE124.out | refine below_set ?_ GEz1.out) | exact HB.out))); (case side2 => exact HC0.out); rintro e wz3 ⟨rfl, hb⟩; refine ⟨_, rfl, ?_⟩; have n0_ := Aside0.mk (Kd.R_below (by (with_reducible repeat (first | apply Kd.R_alloc | apply Kd.R_drewN | apply Kd.R_drew)); exact (Kd.R_mono (Kd.R_far (p := ⟨gbz1, 4, none⟩) (Kd.R_far (p := ⟨gbz1, 3, none⟩) (Kd.R_far (p := ⟨gbz1, 2, none⟩) (Kd.R_far (p := ⟨gbz1, 1, none⟩) (Kd.R_far (p := ⟨gbz1, 0, none⟩) (Kd.R_types HO_125004.out BKz1.out (by decide)) (fun _ hk => hk.2) (.int .i64 tv9)) (fun _ hk => hk.2) (.int .i64 tv10)) (fun _ hk => hk.2) (.int .i64 tv11)) (fun _ hk => hk.2) (.int .i64 tv12)) (fun _ hk => hk.2) (.slice Aoz1 tv13.length coz1)) (fun _ h_ => h_.1))) hb); have n1_ := Aside0.mk (Kd.R_below (by (with_reducible repeat (first | apply Kd.R_alloc | apply Kd.R_drewN | apply Kd.R_drew)); exact (Kd.R_mono (Kd.R_far (p := ⟨gbz1, 4, none⟩) (Kd.R_far (p := ⟨gbz1, 3, none⟩) (Kd.R_far (p := ⟨gbz1, 2, none⟩) (Kd.R_far (p := ⟨gbz1, 1, none⟩) (Kd.R_far (p := ⟨gbz1, 0, none⟩) (Kd.R_types HOz1.out BKz1.out (by decide)) (fun _ hk => hk.2) (.int .i64 tv9)) (fun _ hk => hk.2) (.int .i64 tv10)) (fun _ hk => hk.2) (.int .i64 tv11)) (fun _ hk => hk.2) (.int .i64 tv12)) (fun _ hk => hk.2) (.slice Aoz1 tv13.length coz1)) (fun _ h_ => h_.1))) hb); have n2_ := Aside0.mk (blk_below (g := gb124) (o := .cells #[.int .i64 t116, .int .i64 t117, .int .i64 t118, .int .i64 t119, .slice Ao10 t120.length co10] 24 (0, 0)) (by (with_reducible repeat (first | refine blk_drewN ?_ _ | refine blk_drew ?_ | refine blk_alloc ?_ _)); refine blk_far ?_ NBz1.out _; (with_reducible repeat (first | refine blk_drewN ?_ _ | refine blk_drew ?_ | refine blk_alloc ?_ _)); refine blk_far ?_ NBz1.out _; (with_reducible repeat (first | refine blk_drewN ?_ _ | refine blk_drew ?_ | refine blk_alloc ?_ _)); refine blk_far ?_ NBz1.out _; (with_reducible repeat (first | refine blk_drewN ?_ _ | refine blk_drew ?_ | refine blk_alloc ?_ _)); refine blk_far ?_ NBz1.out _; (with_reducible repeat (first | refine blk_drewN ?_ _ | refine blk_drew ?_ | refine blk_alloc ?_ _)); refine blk_far ?_ NBz1.out _; (with_reducible repeat (first | refine blk_drewN ?_ _ | refine blk_drew ?_ | refine blk_alloc ?_ _)); exact BK124.out) hb); have n3_ := Aside0.mk (blk_below (g := gbz1) (o := .cells #[.int .i64 tv9, .int .i64 tv10, .int .i64 tv11, .int .i64 tv12, .slice Aoz1 tv13.length coz1] 24 (0, 0)) (by (with_reducible repeat (first | refine blk_drewN ?_ _ | refine blk_drew ?_ | refine blk_alloc ?_ _)); refine blk_put (cs := #[.int .i64 tv9, .int .i64 tv10, .int .i64 tv11, .int .i64 tv12, .slice none 0 0]) ?_ 4 _ rfl; (with_reducible repeat (first | refine blk_drewN ?_ _ | refine blk_drew ?_ | refine blk_alloc ?_ _)); refine blk_put (cs := #[.int .i64 tv9, .int .i64 tv10, .int .i64 tv11, .int .i64 0, .slice none 0 0]) ?_ 3 _ rfl; (with_reducible repeat (first | refine blk_drewN ?_ _ | refine blk_drew ?_ | refine blk_alloc ?_ _)); refine blk_put (cs := #[.int .i64 tv9, .int .i64 tv10, .int .i64 0, .int .i64 0, .slice none 0 0]) ?_ 2 _ rfl; (with_reducible repeat (first | refine blk_drewN ?_ _ | refine blk_drew ?_ | refine blk_alloc ?_ _)); refine blk_put (cs := #[.int .i64 tv9, .int .i64 0, .int .i64 0, .int .i64 0, .slice none 0 0]) ?_ 1 _ rfl; (with_reducible repeat (first | refine blk_drewN ?_ _ | refine blk_drew ?_ | refine blk_alloc ?_ _)); refine blk_put (cs := #[.int .i64 0, .int .i64 0, .int .i64 0, .int .i64 0, .slice none 0 0]) ?_ 0 _ rfl; (with_reducible repeat (first | refine blk_drewN ?_ _ | refine blk_drew ?_ | refine blk_alloc ?_ _)); exact BKz1.out) hb); have n4_ := Aside0.mk (below_step (by repeat (first | (with_reducible first | exact HB.out | apply below_alloc | apply pw_below_drewN | apply below_drew1 | refine below_set ?_ GE124.out | refine below_set ?_ GEz1.out) | exact HB.out)) hb); clear HO_125004; clear HOz1; clear BK124; clear BKz1; clear HB; have HO_125004 := n0_; have HOz1 := n1_; have BK124 := n2_; have BKz1 := n3_; have HB := n4_; clear n0_ n1_ n2_ n3_ n4_; (try clear hb); (try clear hb2); (try clear hk); (try clear hi)))
            go_ret2
            exact ⟨by first | rfl | (simp [errW_none, errW_some] <;> rfl) | (simp [*, errW_none, errW_some] <;> rfl), by repeat (first | (with_reducible first | exact HB.out | apply below_alloc | apply pw_below_drewN | apply below_drew1 | refine below_set ?_ GE124.out | refine below_set ?_ GEz1.out) | exact HB.out)⟩)
         | (clear hq2
            clear cv21
            simp only [Option.some.injEq, Prod.mk.injEq] at H
            obtain ⟨rfl, rfl⟩ := H
            have hczz1 : wr.cell? ⟨gb124, 0, none⟩ = some (.int .i64 t116) := (blk_cell BK124.out 0).trans rfl
            have hczz2 : wr.cell? ⟨gb124, 1, none⟩ = some (.int .i64 t117) := (blk_cell BK124.out 1).trans rfl
            have hczz3 : wr.cell? ⟨gb124, 2, none⟩ = some (.int .i64 t118) := (blk_cell BK124.out 2).trans rfl
            have hczz4 : wr.cell? ⟨gb124, 3, none⟩ = some (.int .i64 t119) := (blk_cell BK124.out 3).trans rfl
            have hczz5 : wr.cell? ⟨gb124, 4, none⟩ = some (.slice Ao10 t120.length co10) := (blk_cell BK124.out 4).trans rfl
            have hfzz1 := blk_frozen BK124.out 0
            have hfzz2 := blk_frozen BK124.out 1
            have hfzz3 := blk_frozen BK124.out 2
            have hfzz4 := blk_frozen BK124.out 3
            have hfzz5 := blk_frozen BK124.out 4
            go_wp2_with (first | ((with_reducible refine gate_callee (f := 41) rfl ?_); refine goesL_ (some 119) rfl rfl Try.func41 (by kernel_rfl) rfl #[.slice A0 l0.length c0, .int .i64 xv2] rfl (by (try simp only [List.map_toArray, List.map_cons, List.map_nil]); first | done | rfl | (simp only [List.length_drop, List.length_take]; rfl)) ?_; (with_reducible refine (lamplighterref09_Read.calls _ _ l0 xv2 tv9 tv10 tv11 tv12 tv13 tv14 _ ?side1 ?side2 Av6.out).mono ?_); (case side1 => repeat (first | exact (Kd.C_below HR0.out HB.out) | (with_reducible refine Kd.C_alloc ?_ _) | (with_reducible refine Kd.C_drewN ?_ _) | (with_reducible refine Kd.C_drew ?_))); (case side2 => exact HC0.out); rintro e wz1 ⟨vvvz1, rfl, ho0, hb⟩; refine ⟨_, rfl, ?_⟩; have n0_ := Aside0.mk (Kd.R_elder' (by (with_reducible repeat (first | apply Kd.R_alloc | apply Kd.R_drewN | apply Kd.R_drew)); exact HO_125004.out) (Kd.R_base ho0) hb); have n1_ := Aside0.mk (Kd.R_lower (Kd.R_new' ho0 (Kd.R_lt (by (with_reducible repeat (first | apply Kd.R_alloc | apply Kd.R_drewN | apply Kd.R_drew)); exact HO_125004.out))) (below_size (by repeat (first | (with_reducible first | exact HB.out | apply below_alloc | apply pw_below_drewN | apply below_drew1 | refine below_set ?_ GE124.out) | exact HB.out)))); have n2_ := Aside0.mk (blk_below (g := gb124) (o := .cells #[.int .i64 t116, .int .i64 t117, .int .i64 t118, .int .i64 t119, .slice Ao10 t120.length co10] 24 (0, 0)) (by (with_reducible repeat (first | refine blk_drewN ?_ _ | refine blk_drew ?_ | refine blk_alloc ?_ _)); exact BK124.out) hb); have n3_ := Aside0.mk (below_step (by repeat (first | (with_reducible first | exact HB.out | apply below_alloc | apply pw_below_drewN | apply below_drew1 | refine below_set ?_ GE124.out) | exact HB.out)) hb); clear HO_125004; clear BK124; clear HB; have HO_125004 := n0_; have HOz1 := n1_; have BK124 := n2_; have HB := n3_; clear n0_ n1_ n2_ n3_; (try clear hb); (try clear hb2); (try clear hk); (try clear hi); (try clear ho0)) | ((with_reducible refine gate_dst (N := 20) rfl ?_); refine box_event ?hg (N := 20) ?hd (cs := #[.int .i64 0, .int .i64 0, .int .i64 0, .int .i64 0, .slice none 0 0]) (t := 24) ?hr ?_; (case hd => rfl); (case hg => rfl); (case hr => first | (go_simp; done) | (go_simp; rfl)); intro gbz1 hg wz2 hbox hb; have n0_ := Aside0.mk (Kd.R_below (by (with_reducible repeat (first | apply Kd.R_alloc | apply Kd.R_drewN | apply Kd.R_drew)); exact HO_125004.out) hb); have n1_ := Aside0.mk (Kd.R_below (by (with_reducible repeat (first | apply Kd.R_alloc | apply Kd.R_drewN | apply Kd.R_drew)); exact HOz1.out) hb); have n2_ := Aside0.mk (blk_below (g := gb124) (o := .cells #[.int .i64 t116, .int .i64 t117, .int .i64 t118, .int .i64 t119, .slice Ao10 t120.length co10] 24 (0, 0)) (by (with_reducible repeat (first | refine blk_drewN ?_ _ | refine blk_drew ?_ | refine blk_alloc ?_ _)); exact BK124.out) hb); have n3_ := Aside0.mk (below_step (by repeat (first | (with_reducible first | exact HB.out | apply below_alloc | apply pw_below_drewN | apply below_drew1 | refine below_set ?_ GE124.out) | exact HB.out)) hb); have n4_ := Aside0.mk (hbox); have n5_ := Aside0.mk ((by rw [hg]; exact (below_size (by repeat (first | (with_reducible first | exact HB.out | apply below_alloc | apply pw_below_drewN | apply below_drew1 | refine below_set ?_ GE124.out) | exact HB.out))) : w.heap.size ≤ gbz1)); have n6_ := Aside0.mk ((by rw [hg]; exact (below_size (by repeat (first | (with_reducible first | exact HB.out | apply below_alloc | apply pw_below_drewN | apply below_drew1 | refine below_set ?_ GE124.out) | exact HB.out))) : w.heap.size ≤ gbz1)); have n7_ := Aside0.mk ((by rw [hg]; exact Nat.ne_of_lt (blk_lt (g := gb124) (o := .cells #[.int .i64 t116, .int .i64 t117, .int .i64 t118, .int .i64 t119, .slice Ao10 t120.length co10] 24 (0, 0)) (by (with_reducible repeat (first | refine blk_drewN ?_ _ | refine blk_drew ?_ | refine blk_alloc ?_ _)); exact BK124.out)) : gb124 ≠ gbz1)); have n8_ := Aside0.mk ((by rw [hg]; exact Nat.ne_of_gt (blk_lt (g := gb124) (o := .cells #[.int .i64 t116, .int .i64 t117, .int .i64 t118, .int .i64 t119, .slice Ao10 t120.length co10] 24 (0, 0)) (by (with_reducible repeat (first | refine blk_drewN ?_ _ | refine blk_drew ?_ | refine blk_alloc ?_ _)); exact BK124.out)) : gbz1 ≠ gb124)); clear HO_125004; clear HOz1; clear BK124; clear HB; have HO_125004 := n0_; have HOz1 := n1_; have BK124 := n2_; have HB := n3_; have BKz1 := n4_; have GWz1 := n5_; have GEz1 := n6_; have NBz1 := n7_; have NBz2 := n8_; clear n0_ n1_ n2_ n3_ n4_ n5_ n6_ n7_ n8_; clear hb hbox hg; have hnbz1 := NBz2.out; have hncz1 := NBz1.out; have hczz6 : wz2.cell? ⟨gbz1, 0, none⟩ = some (.int .i64 0) := (blk_cell BKz1.out 0).trans rfl; have hczz7 : wz2.cell? ⟨gbz1, 1, none⟩ = some (.int .i64 0) := (blk_cell BKz1.out 1).trans rfl; have hczz8 : wz2.cell? ⟨gbz1, 2, none⟩ = some (.int .i64 0) := (blk_cell BKz1.out 2).trans rfl; have hczz9 : wz2.cell? ⟨gbz1, 3, none⟩ = some (.int .i64 0) := (blk_cell BKz1.out 3).trans rfl; have hczz10 : wz2.cell? ⟨gbz1, 4, none⟩ = some (.slice none 0 0) := (blk_cell BKz1.out 4).trans rfl; have hfzz6 := blk_frozen BKz1.out 0; have hfzz7 := blk_frozen BKz1.out 1; have hfzz8 := blk_frozen BKz1.out 2; have hfzz9 := blk_frozen BKz1.out 3; have hfzz10 := blk_frozen BKz1.out 4; obtain ⟨Aoz1, coz1, eoz1⟩ := Kd.R_slice HOz1.out; subst eoz1) | ((with_reducible refine gate_callee (f := 42) rfl ?_); refine goesL_ (some 125) rfl rfl Try.func42 (by kernel_rfl) rfl #[.slice A0 l0.length c0, .int .i64 xv2] rfl (by (try simp only [List.map_toArray, List.map_cons, List.map_nil]); first | done | rfl | (simp only [List.length_drop, List.length_take]; rfl)) ?_; (with_reducible refine (lamplighterref11_Low.calls _ _ l0 xv2 tv15 tv16 _ ?side1 ?side2 Av8.out).mono ?_); (case side1 => exact Kd.C_below HR0.out (by repeat (first | (with_reducible first | exact HB.out | apply below_alloc | apply pw_below_drewN | apply below_drew1 | refine below_set ?_ GE124.out | refine below_set ?_ GEz1.out) | exact HB.out))); (case side2 => exact HC0.out); rintro e wz3 ⟨rfl, hb⟩; refine ⟨_, rfl, ?_⟩; have n0_ := Aside0.mk (Kd.R_below (by (with_reducible repeat (first | apply Kd.R_alloc | apply Kd.R_drewN | apply Kd.R_drew)); exact (Kd.R_mono (Kd.R_far (p := ⟨gbz1, 4, none⟩) (Kd.R_far (p := ⟨gbz1, 3, none⟩) (Kd.R_far (p := ⟨gbz1, 2, none⟩) (Kd.R_far (p := ⟨gbz1, 1, none⟩) (Kd.R_far (p := ⟨gbz1, 0, none⟩) (Kd.R_types HO_125004.out BKz1.out (by decide)) (fun _ hk => hk.2) (.int .i64 tv9)) (fun _ hk => hk.2) (.int .i64 tv10)) (fun _ hk => hk.2) (.int .i64 tv11)) (fun _ hk => hk.2) (.int .i64 tv12)) (fun _ hk => hk.2) (.slice Aoz1 tv13.length coz1)) (fun _ h_ => h_.1))) hb); have n1_ := Aside0.mk (Kd.R_below (by (with_reducible repeat (first | apply Kd.R_alloc | apply Kd.R_drewN | apply Kd.R_drew)); exact (Kd.R_mono (Kd.R_far (p := ⟨gbz1, 4, none⟩) (Kd.R_far (p := ⟨gbz1, 3, none⟩) (Kd.R_far (p := ⟨gbz1, 2, none⟩) (Kd.R_far (p := ⟨gbz1, 1, none⟩) (Kd.R_far (p := ⟨gbz1, 0, none⟩) (Kd.R_types HOz1.out BKz1.out (by decide)) (fun _ hk => hk.2) (.int .i64 tv9)) (fun _ hk => hk.2) (.int .i64 tv10)) (fun _ hk => hk.2) (.int .i64 tv11)) (fun _ hk => hk.2) (.int .i64 tv12)) (fun _ hk => hk.2) (.slice Aoz1 tv13.length coz1)) (fun _ h_ => h_.1))) hb); have n2_ := Aside0.mk (blk_below (g := gb124) (o := .cells #[.int .i64 t116, .int .i64 t117, .int .i64 t118, .int .i64 t119, .slice Ao10 t120.length co10] 24 (0, 0)) (by (with_reducible repeat (first | refine blk_drewN ?_ _ | refine blk_drew ?_ | refine blk_alloc ?_ _)); refine blk_far ?_ NBz1.out _; (with_reducible repeat (first | refine blk_drewN ?_ _ | refine blk_drew ?_ | refine blk_alloc ?_ _)); refine blk_far ?_ NBz1.out _; (with_reducible repeat (first | refine blk_drewN ?_ _ | refine blk_drew ?_ | refine blk_alloc ?_ _)); refine blk_far ?_ NBz1.out _; (with_reducible repeat (first | refine blk_drewN ?_ _ | refine blk_drew ?_ | refine blk_alloc ?_ _)); refine blk_far ?_ NBz1.out _; (with_reducible repeat (first | refine blk_drewN ?_ _ | refine blk_drew ?_ | refine blk_alloc ?_ _)); refine blk_far ?_ NBz1.out _; (with_reducible repeat (first | refine blk_drewN ?_ _ | refine blk_drew ?_ | refine blk_alloc ?_ _)); exact BK124.out) hb); have n3_ := Aside0.mk (blk_below (g := gbz1) (o := .cells #[.int .i64 tv9, .int .i64 tv10, .int .i64 tv11, .int .i64 tv12, .slice Aoz1 tv13.length coz1] 24 (0, 0)) (by (with_reducible repeat (first | refine blk_drewN ?_ _ | refine blk_drew ?_ | refine blk_alloc ?_ _)); refine blk_put (cs := #[.int .i64 tv9, .int .i64 tv10, .int .i64 tv11, .int .i64 tv12, .slice none 0 0]) ?_ 4 _ rfl; (with_reducible repeat (first | refine blk_drewN ?_ _ | refine blk_drew ?_ | refine blk_alloc ?_ _)); refine blk_put (cs := #[.int .i64 tv9, .int .i64 tv10, .int .i64 tv11, .int .i64 0, .slice none 0 0]) ?_ 3 _ rfl; (with_reducible repeat (first | refine blk_drewN ?_ _ | refine blk_drew ?_ | refine blk_alloc ?_ _)); refine blk_put (cs := #[.int .i64 tv9, .int .i64 tv10, .int .i64 0, .int .i64 0, .slice none 0 0]) ?_ 2 _ rfl; (with_reducible repeat (first | refine blk_drewN ?_ _ | refine blk_drew ?_ | refine blk_alloc ?_ _)); refine blk_put (cs := #[.int .i64 tv9, .int .i64 0, .int .i64 0, .int .i64 0, .slice none 0 0]) ?_ 1 _ rfl; (with_reducible repeat (first | refine blk_drewN ?_ _ | refine blk_drew ?_ | refine blk_alloc ?_ _)); refine blk_put (cs := #[.int .i64 0, .int .i64 0, .int .i64 0, .int .i64 0, .slice none 0 0]) ?_ 0 _ rfl; (with_reducible repeat (first | refine blk_drewN ?_ _ | refine blk_drew ?_ | refine blk_alloc ?_ _)); exact BKz1.out) hb); have n4_ := Aside0.mk (below_step (by repeat (first | (with_reducible first | exact HB.out | apply below_alloc | apply pw_below_drewN | apply below_drew1 | refine below_set ?_ GE124.out | refine below_set ?_ GEz1.out) | exact HB.out)) hb); clear HO_125004; clear HOz1; clear BK124; clear BKz1; clear HB; have HO_125004 := n0_; have HOz1 := n1_; have BK124 := n2_; have BKz1 := n3_; have HB := n4_; clear n0_ n1_ n2_ n3_ n4_; (try clear hb); (try clear hb2); (try clear hk); (try clear hi); have hczz11 : wz3.cell? ⟨gbz1, 0, none⟩ = some (.int .i64 tv9) := (blk_cell BKz1.out 0).trans rfl; have hczz12 : wz3.cell? ⟨gbz1, 1, none⟩ = some (.int .i64 tv10) := (blk_cell BKz1.out 1).trans rfl; have hczz13 : wz3.cell? ⟨gbz1, 2, none⟩ = some (.int .i64 tv11) := (blk_cell BKz1.out 2).trans rfl; have hczz14 : wz3.cell? ⟨gbz1, 3, none⟩ = some (.int .i64 tv12) := (blk_cell BKz1.out 3).trans rfl; have hczz15 : wz3.cell? ⟨gbz1, 4, none⟩ = some (.slice Aoz1 tv13.length coz1) := (blk_cell BKz1.out 4).trans rfl; have hfzz11 := blk_frozen BKz1.out 0; have hfzz12 := blk_frozen BKz1.out 1; have hfzz13 := blk_frozen BKz1.out 2; have hfzz14 := blk_frozen BKz1.out 3; have hfzz15 := blk_frozen BKz1.out 4; have hczz16 : wz3.cell? ⟨gb124, 0, none⟩ = some (.int .i64 t116) := (blk_cell BK124.out 0).trans rfl; have hczz17 : wz3.cell? ⟨gb124, 1, none⟩ = some (.int .i64 t117) := (blk_cell BK124.out 1).trans rfl; have hczz18 : wz3.cell? ⟨gb124, 2, none⟩ = some (.int .i64 t118) := (blk_cell BK124.out 2).trans rfl; have hczz19 : wz3.cell? ⟨gb124, 3, none⟩ = some (.int .i64 t119) := (blk_cell BK124.out 3).trans rfl; have hczz20 : wz3.cell? ⟨gb124, 4, none⟩ = some (.slice Ao10 t120.length co10) := (blk_cell BK124.out 4).trans rfl; have hfzz16 := blk_frozen BK124.out 0; have hfzz17 := blk_frozen BK124.out 1; have hfzz18 := blk_frozen BK124.out 2; have hfzz19 := blk_frozen BK124.out 3; have hfzz20 := blk_frozen BK124.out 4))
            go_ret2
            exact ⟨by first | rfl | (simp [errW_none, errW_some] <;> rfl) | (simp [*, errW_none, errW_some] <;> rfl), by repeat (first | (with_reducible first | exact HB.out | apply below_alloc | apply pw_below_drewN | apply below_drew1 | refine below_set ?_ GE124.out | refine below_set ?_ GEz1.out) | exact HB.out)⟩)
         | (clear hq3
            simp only [Option.some.injEq, Prod.mk.injEq] at H
            obtain ⟨rfl, rfl⟩ := H
            have hczz1 : wr.cell? ⟨gb124, 0, none⟩ = some (.int .i64 t116) := (blk_cell BK124.out 0).trans rfl
            have hczz2 : wr.cell? ⟨gb124, 1, none⟩ = some (.int .i64 t117) := (blk_cell BK124.out 1).trans rfl
            have hczz3 : wr.cell? ⟨gb124, 2, none⟩ = some (.int .i64 t118) := (blk_cell BK124.out 2).trans rfl
            have hczz4 : wr.cell? ⟨gb124, 3, none⟩ = some (.int .i64 t119) := (blk_cell BK124.out 3).trans rfl
            have hczz5 : wr.cell? ⟨gb124, 4, none⟩ = some (.slice Ao10 t120.length co10) := (blk_cell BK124.out 4).trans rfl
            have hfzz1 := blk_frozen BK124.out 0
            have hfzz2 := blk_frozen BK124.out 1
            have hfzz3 := blk_frozen BK124.out 2
            have hfzz4 := blk_frozen BK124.out 3
            have hfzz5 := blk_frozen BK124.out 4
            go_wp2_with (first | ((with_reducible refine gate_callee (f := 41) rfl ?_); refine goesL_ (some 119) rfl rfl Try.func41 (by kernel_rfl) rfl #[.slice A0 l0.length c0, .int .i64 xv2] rfl (by (try simp only [List.map_toArray, List.map_cons, List.map_nil]); first | done | rfl | (simp only [List.length_drop, List.length_take]; rfl)) ?_; (with_reducible refine (lamplighterref09_Read.calls _ _ l0 xv2 tv9 tv10 tv11 tv12 tv13 tv14 _ ?side1 ?side2 Av6.out).mono ?_); (case side1 => repeat (first | exact (Kd.C_below HR0.out HB.out) | (with_reducible refine Kd.C_alloc ?_ _) | (with_reducible refine Kd.C_drewN ?_ _) | (with_reducible refine Kd.C_drew ?_))); (case side2 => exact HC0.out); rintro e wz1 ⟨vvvz1, rfl, ho0, hb⟩; refine ⟨_, rfl, ?_⟩; have n0_ := Aside0.mk (Kd.R_elder' (by (with_reducible repeat (first | apply Kd.R_alloc | apply Kd.R_drewN | apply Kd.R_drew)); exact HO_125004.out) (Kd.R_base ho0) hb); have n1_ := Aside0.mk (Kd.R_lower (Kd.R_new' ho0 (Kd.R_lt (by (with_reducible repeat (first | apply Kd.R_alloc | apply Kd.R_drewN | apply Kd.R_drew)); exact HO_125004.out))) (below_size (by repeat (first | (with_reducible first | exact HB.out | apply below_alloc | apply pw_below_drewN | apply below_drew1 | refine below_set ?_ GE124.out) | exact HB.out)))); have n2_ := Aside0.mk (blk_below (g := gb124) (o := .cells #[.int .i64 t116, .int .i64 t117, .int .i64 t118, .int .i64 t119, .slice Ao10 t120.length co10] 24 (0, 0)) (by (with_reducible repeat (first | refine blk_drewN ?_ _ | refine blk_drew ?_ | refine blk_alloc ?_ _)); exact BK124.out) hb); have n3_ := Aside0.mk (below_step (by repeat (first | (with_reducible first | exact HB.out | apply below_alloc | apply pw_below_drewN | apply below_drew1 | refine below_set ?_ GE124.out) | exact HB.out)) hb); clear HO_125004; clear BK124; clear HB; have HO_125004 := n0_; have HOz1 := n1_; have BK124 := n2_; have HB := n3_; clear n0_ n1_ n2_ n3_; (try clear hb); (try clear hb2); (try clear hk); (try clear hi); (try clear ho0)) | ((with_reducible refine gate_dst (N := 20) rfl ?_); refine box_event ?hg (N := 20) ?hd (cs := #[.int .i64 0, .int .i64 0, .int .i64 0, .int .i64 0, .slice none 0 0]) (t := 24) ?hr ?_; (case hd => rfl); (case hg => rfl); (case hr => first | (go_simp; done) | (go_simp; rfl)); intro gbz1 hg wz2 hbox hb; have n0_ := Aside0.mk (Kd.R_below (by (with_reducible repeat (first | apply Kd.R_alloc | apply Kd.R_drewN | apply Kd.R_drew)); exact HO_125004.out) hb); have n1_ := Aside0.mk (Kd.R_below (by (with_reducible repeat (first | apply Kd.R_alloc | apply Kd.R_drewN | apply Kd.R_drew)); exact HOz1.out) hb); have n2_ := Aside0.mk (blk_below (g := gb124) (o := .cells #[.int .i64 t116, .int .i64 t117, .int .i64 t118, .int .i64 t119, .slice Ao10 t120.length co10] 24 (0, 0)) (by (with_reducible repeat (first | refine blk_drewN ?_ _ | refine blk_drew ?_ | refine blk_alloc ?_ _)); exact BK124.out) hb); have n3_ := Aside0.mk (below_step (by repeat (first | (with_reducible first | exact HB.out | apply below_alloc | apply pw_below_drewN | apply below_drew1 | refine below_set ?_ GE124.out) | exact HB.out)) hb); have n4_ := Aside0.mk (hbox); have n5_ := Aside0.mk ((by rw [hg]; exact (below_size (by repeat (first | (with_reducible first | exact HB.out | apply below_alloc | apply pw_below_drewN | apply below_drew1 | refine below_set ?_ GE124.out) | exact HB.out))) : w.heap.size ≤ gbz1)); have n6_ := Aside0.mk ((by rw [hg]; exact (below_size (by repeat (first | (with_reducible first | exact HB.out | apply below_alloc | apply pw_below_drewN | apply below_drew1 | refine below_set ?_ GE124.out) | exact HB.out))) : w.heap.size ≤ gbz1)); have n7_ := Aside0.mk ((by rw [hg]; exact Nat.ne_of_lt (blk_lt (g := gb124) (o := .cells #[.int .i64 t116, .int .i64 t117, .int .i64 t118, .int .i64 t119, .slice Ao10 t120.length co10] 24 (0, 0)) (by (with_reducible repeat (first | refine blk_drewN ?_ _ | refine blk_drew ?_ | refine blk_alloc ?_ _)); exact BK124.out)) : gb124 ≠ gbz1)); have n8_ := Aside0.mk ((by rw [hg]; exact Nat.ne_of_gt (blk_lt (g := gb124) (o := .cells #[.int .i64 t116, .int .i64 t117, .int .i64 t118, .int .i64 t119, .slice Ao10 t120.length co10] 24 (0, 0)) (by (with_reducible repeat (first | refine blk_drewN ?_ _ | refine blk_drew ?_ | refine blk_alloc ?_ _)); exact BK124.out)) : gbz1 ≠ gb124)); clear HO_125004; clear HOz1; clear BK124; clear HB; have HO_125004 := n0_; have HOz1 := n1_; have BK124 := n2_; have HB := n3_; have BKz1 := n4_; have GWz1 := n5_; have GEz1 := n6_; have NBz1 := n7_; have NBz2 := n8_; clear n0_ n1_ n2_ n3_ n4_ n5_ n6_ n7_ n8_; clear hb hbox hg; have hnbz1 := NBz2.out; have hncz1 := NBz1.out; have hczz6 : wz2.cell? ⟨gbz1, 0, none⟩ = some (.int .i64 0) := (blk_cell BKz1.out 0).trans rfl; have hczz7 : wz2.cell? ⟨gbz1, 1, none⟩ = some (.int .i64 0) := (blk_cell BKz1.out 1).trans rfl; have hczz8 : wz2.cell? ⟨gbz1, 2, none⟩ = some (.int .i64 0) := (blk_cell BKz1.out 2).trans rfl; have hczz9 : wz2.cell? ⟨gbz1, 3, none⟩ = some (.int .i64 0) := (blk_cell BKz1.out 3).trans rfl; have hczz10 : wz2.cell? ⟨gbz1, 4, none⟩ = some (.slice none 0 0) := (blk_cell BKz1.out 4).trans rfl; have hfzz6 := blk_frozen BKz1.out 0; have hfzz7 := blk_frozen BKz1.out 1; have hfzz8 := blk_frozen BKz1.out 2; have hfzz9 := blk_frozen BKz1.out 3; have hfzz10 := blk_frozen BKz1.out 4; obtain ⟨Aoz1, coz1, eoz1⟩ := Kd.R_slice HOz1.out; subst eoz1) | ((with_reducible refine gate_callee (f := 42) rfl ?_); refine goesL_ (some 125) rfl rfl Try.func42 (by kernel_rfl) rfl #[.slice A0 l0.length c0, .int .i64 xv2] rfl (by (try simp only [List.map_toArray, List.map_cons, List.map_nil]); first | done | rfl | (simp only [List.length_drop, List.length_take]; rfl)) ?_; (with_reducible refine (lamplighterref11_Low.calls _ _ l0 xv2 tv15 tv16 _ ?side1 ?side2 Av8.out).mono ?_); (case side1 => exact Kd.C_below HR0.out (by repeat (first | (with_reducible first | exact HB.out | apply below_alloc | apply pw_below_drewN | apply below_drew1 | refine below_set ?_ GE124.out | refine below_set ?_ GEz1.out) | exact HB.out))); (case side2 => exact HC0.out); rintro e wz3 ⟨rfl, hb⟩; refine ⟨_, rfl, ?_⟩; have n0_ := Aside0.mk (Kd.R_below (by (with_reducible repeat (first | apply Kd.R_alloc | apply Kd.R_drewN | apply Kd.R_drew)); exact (Kd.R_mono (Kd.R_far (p := ⟨gbz1, 4, none⟩) (Kd.R_far (p := ⟨gbz1, 3, none⟩) (Kd.R_far (p := ⟨gbz1, 2, none⟩) (Kd.R_far (p := ⟨gbz1, 1, none⟩) (Kd.R_far (p := ⟨gbz1, 0, none⟩) (Kd.R_types HO_125004.out BKz1.out (by decide)) (fun _ hk => hk.2) (.int .i64 tv9)) (fun _ hk => hk.2) (.int .i64 tv10)) (fun _ hk => hk.2) (.int .i64 tv11)) (fun _ hk => hk.2) (.int .i64 tv12)) (fun _ hk => hk.2) (.slice Aoz1 tv13.length coz1)) (fun _ h_ => h_.1))) hb); have n1_ := Aside0.mk (Kd.R_below (by (with_reducible repeat (first | apply Kd.R_alloc | apply Kd.R_drewN | apply Kd.R_drew)); exact (Kd.R_mono (Kd.R_far (p := ⟨gbz1, 4, none⟩) (Kd.R_far (p := ⟨gbz1, 3, none⟩) (Kd.R_far (p := ⟨gbz1, 2, none⟩) (Kd.R_far (p := ⟨gbz1, 1, none⟩) (Kd.R_far (p := ⟨gbz1, 0, none⟩) (Kd.R_types HOz1.out BKz1.out (by decide)) (fun _ hk => hk.2) (.int .i64 tv9)) (fun _ hk => hk.2) (.int .i64 tv10)) (fun _ hk => hk.2) (.int .i64 tv11)) (fun _ hk => hk.2) (.int .i64 tv12)) (fun _ hk => hk.2) (.slice Aoz1 tv13.length coz1)) (fun _ h_ => h_.1))) hb); have n2_ := Aside0.mk (blk_below (g := gb124) (o := .cells #[.int .i64 t116, .int .i64 t117, .int .i64 t118, .int .i64 t119, .slice Ao10 t120.length co10] 24 (0, 0)) (by (with_reducible repeat (first | refine blk_drewN ?_ _ | refine blk_drew ?_ | refine blk_alloc ?_ _)); refine blk_far ?_ NBz1.out _; (with_reducible repeat (first | refine blk_drewN ?_ _ | refine blk_drew ?_ | refine blk_alloc ?_ _)); refine blk_far ?_ NBz1.out _; (with_reducible repeat (first | refine blk_drewN ?_ _ | refine blk_drew ?_ | refine blk_alloc ?_ _)); refine blk_far ?_ NBz1.out _; (with_reducible repeat (first | refine blk_drewN ?_ _ | refine blk_drew ?_ | refine blk_alloc ?_ _)); refine blk_far ?_ NBz1.out _; (with_reducible repeat (first | refine blk_drewN ?_ _ | refine blk_drew ?_ | refine blk_alloc ?_ _)); refine blk_far ?_ NBz1.out _; (with_reducible repeat (first | refine blk_drewN ?_ _ | refine blk_drew ?_ | refine blk_alloc ?_ _)); exact BK124.out) hb); have n3_ := Aside0.mk (blk_below (g := gbz1) (o := .cells #[.int .i64 tv9, .int .i64 tv10, .int .i64 tv11, .int .i64 tv12, .slice Aoz1 tv13.length coz1] 24 (0, 0)) (by (with_reducible repeat (first | refine blk_drewN ?_ _ | refine blk_drew ?_ | refine blk_alloc ?_ _)); refine blk_put (cs := #[.int .i64 tv9, .int .i64 tv10, .int .i64 tv11, .int .i64 tv12, .slice none 0 0]) ?_ 4 _ rfl; (with_reducible repeat (first | refine blk_drewN ?_ _ | refine blk_drew ?_ | refine blk_alloc ?_ _)); refine blk_put (cs := #[.int .i64 tv9, .int .i64 tv10, .int .i64 tv11, .int .i64 0, .slice none 0 0]) ?_ 3 _ rfl; (with_reducible repeat (first | refine blk_drewN ?_ _ | refine blk_drew ?_ | refine blk_alloc ?_ _)); refine blk_put (cs := #[.int .i64 tv9, .int .i64 tv10, .int .i64 0, .int .i64 0, .slice none 0 0]) ?_ 2 _ rfl; (with_reducible repeat (first | refine blk_drewN ?_ _ | refine blk_drew ?_ | refine blk_alloc ?_ _)); refine blk_put (cs := #[.int .i64 tv9, .int .i64 0, .int .i64 0, .int .i64 0, .slice none 0 0]) ?_ 1 _ rfl; (with_reducible repeat (first | refine blk_drewN ?_ _ | refine blk_drew ?_ | refine blk_alloc ?_ _)); refine blk_put (cs := #[.int .i64 0, .int .i64 0, .int .i64 0, .int .i64 0, .slice none 0 0]) ?_ 0 _ rfl; (with_reducible repeat (first | refine blk_drewN ?_ _ | refine blk_drew ?_ | refine blk_alloc ?_ _)); exact BKz1.out) hb); have n4_ := Aside0.mk (below_step (by repeat (first | (with_reducible first | exact HB.out | apply below_alloc | apply pw_below_drewN | apply below_drew1 | refine below_set ?_ GE124.out | refine below_set ?_ GEz1.out) | exact HB.out)) hb); clear HO_125004; clear HOz1; clear BK124; clear BKz1; clear HB; have HO_125004 := n0_; have HOz1 := n1_; have BK124 := n2_; have BKz1 := n3_; have HB := n4_; clear n0_ n1_ n2_ n3_ n4_; (try clear hb); (try clear hb2); (try clear hk); (try clear hi); have hczz11 : wz3.cell? ⟨gbz1, 0, none⟩ = some (.int .i64 tv9) := (blk_cell BKz1.out 0).trans rfl; have hczz12 : wz3.cell? ⟨gbz1, 1, none⟩ = some (.int .i64 tv10) := (blk_cell BKz1.out 1).trans rfl; have hczz13 : wz3.cell? ⟨gbz1, 2, none⟩ = some (.int .i64 tv11) := (blk_cell BKz1.out 2).trans rfl; have hczz14 : wz3.cell? ⟨gbz1, 3, none⟩ = some (.int .i64 tv12) := (blk_cell BKz1.out 3).trans rfl; have hczz15 : wz3.cell? ⟨gbz1, 4, none⟩ = some (.slice Aoz1 tv13.length coz1) := (blk_cell BKz1.out 4).trans rfl; have hfzz11 := blk_frozen BKz1.out 0; have hfzz12 := blk_frozen BKz1.out 1; have hfzz13 := blk_frozen BKz1.out 2; have hfzz14 := blk_frozen BKz1.out 3; have hfzz15 := blk_frozen BKz1.out 4; have hczz16 : wz3.cell? ⟨gb124, 0, none⟩ = some (.int .i64 t116) := (blk_cell BK124.out 0).trans rfl; have hczz17 : wz3.cell? ⟨gb124, 1, none⟩ = some (.int .i64 t117) := (blk_cell BK124.out 1).trans rfl; have hczz18 : wz3.cell? ⟨gb124, 2, none⟩ = some (.int .i64 t118) := (blk_cell BK124.out 2).trans rfl; have hczz19 : wz3.cell? ⟨gb124, 3, none⟩ = some (.int .i64 t119) := (blk_cell BK124.out 3).trans rfl; have hczz20 : wz3.cell? ⟨gb124, 4, none⟩ = some (.slice Ao10 t120.length co10) := (blk_cell BK124.out 4).trans rfl; have hfzz16 := blk_frozen BK124.out 0; have hfzz17 := blk_frozen BK124.out 1; have hfzz18 := blk_frozen BK124.out 2; have hfzz19 := blk_frozen BK124.out 3; have hfzz20 := blk_frozen BK124.out 4))
            go_ret2
            exact ⟨by first | rfl | (simp [errW_none, errW_some] <;> rfl) | (simp [*, errW_none, errW_some] <;> rfl), by repeat (first | (with_reducible first | exact HB.out | apply below_alloc | apply pw_below_drewN | apply below_drew1 | refine below_set ?_ GE124.out | refine below_set ?_ GEz1.out) | exact HB.out)⟩)
end
end Go.Proofs.Ytliaemoomhfcdaa.IT
