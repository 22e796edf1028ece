/- Written by this session's own program (hprint.py) with the help of the kit's print. Lean checks it. -/
import Derived.Test.YtliaemoomhfcdaaMQ
import Derived.Test.YtliaemoomhfcdaaISx0
import Derived.Test.YtliaemoomhfcdaaGivenSN
import Derived.Test.YtliaemoomhfcdaaMA
namespace Go.Proofs.Ytliaemoomhfcdaa.IS
attribute [local go_sem] Go.Proofs.Ytliaemoomhfcdaa.le_flip
open Go.Proofs.Ytliaemoomhfcdaa.LC Go.Proofs.Ytliaemoomhfcdaa.AW Go.Proofs.Ytliaemoomhfcdaa.ID Go.Proofs.Ytliaemoomhfcdaa.SN   -- OPENED
open Go.RowKit Go.Proofs.YtliaemoomhfcdaaW.PrintWords Go.Proofs.YtliaemoomhfcdaaW.PrintLast Go.Proofs.YtliaemoomhfcdaaW.PrintMore
attribute [local go_sem] max2_int min2_int max_two min_two max_three min_three max_four min_four   -- for this text's walks alone
set_option linter.unusedVariables false
set_option linter.unusedSimpArgs false
noncomputable section

/-! ### index_leads: function 61 -/
def index_leads.l0 : Nat → List Int → ByteArray → List Int → ByteArray → List Int → Int → Int → Int → Int → Int → Int → List Int → Option (Bool)
  | 0, _, _, _, _, _, _, _, _, _, _, _, _ => none
  | k + 1, x0, x2, x3, x9, x25, x26, x27, x140000, x140001, x140002, x140003, x140004 => if x27 < x26 then (if 0 ≤ x27 then (if x27 < (x25.length : Int) then ((rec_Read.f x0 (rd x25 x27)).bind fun bt143 => ((arena_Low.f x0 bt143.2.2.2.1).bind fun bt149 => (if bt143.2.2.2.2 = 0 then (if bt143.1 = 2 then (if x140002 = 0 then (if x27 > 0 then (if ((Op.bytesLess x2.toList bt143.2.1.toList) = true) then (if x27 = 0 then (if bt143.2.1.toList = x2.toList then ((slices_Contains_int_int.f x3 bt143.2.2.2.1).bind fun t151 => (if t151 = true then (if bt149.2 = 0 then (if bt149.1.toList = bt143.2.1.toList then (index_leads.l0 k x0 bt143.2.1 x3 x9 x25 x26 (wrap64 (x27 + 1)) x140000 x140001 x140002 x140003 x140004) else (some false)) else (some false)) else (some false))) else (some false)) else ((slices_Contains_int_int.f x3 bt143.2.2.2.1).bind fun t152 => (if t152 = true then (if bt149.2 = 0 then (if bt149.1.toList = bt143.2.1.toList then (index_leads.l0 k x0 bt143.2.1 x3 x9 x25 x26 (wrap64 (x27 + 1)) x140000 x140001 x140002 x140003 x140004) else (some false)) else (some false)) else (some false)))) else (some false)) else (if x27 = 0 then (if bt143.2.1.toList = x2.toList then ((slices_Contains_int_int.f x3 bt143.2.2.2.1).bind fun t153 => (if t153 = true then (if bt149.2 = 0 then (if bt149.1.toList = bt143.2.1.toList then (index_leads.l0 k x0 bt143.2.1 x3 x9 x25 x26 (wrap64 (x27 + 1)) x140000 x140001 x140002 x140003 x140004) else (some false)) else (some false)) else (some false))) else (some false)) else ((slices_Contains_int_int.f x3 bt143.2.2.2.1).bind fun t154 => (if t154 = true then (if bt149.2 = 0 then (if bt149.1.toList = bt143.2.1.toList then (index_leads.l0 k x0 bt143.2.1 x3 x9 x25 x26 (wrap64 (x27 + 1)) x140000 x140001 x140002 x140003 x140004) else (some false)) else (some false)) else (some false))))) else (if ((Op.bytesLess bt143.2.1.toList x9.toList) = true) then (if x27 > 0 then (if ((Op.bytesLess x2.toList bt143.2.1.toList) = true) then (if x27 = 0 then (if bt143.2.1.toList = x2.toList then ((slices_Contains_int_int.f x3 bt143.2.2.2.1).bind fun t155 => (if t155 = true then (if bt149.2 = 0 then (if bt149.1.toList = bt143.2.1.toList then (index_leads.l0 k x0 bt143.2.1 x3 x9 x25 x26 (wrap64 (x27 + 1)) x140000 x140001 x140002 x140003 x140004) else (some false)) else (some false)) else (some false))) else (some false)) else ((slices_Contains_int_int.f x3 bt143.2.2.2.1).bind fun t156 => (if t156 = true then (if bt149.2 = 0 then (if bt149.1.toList = bt143.2.1.toList then (index_leads.l0 k x0 bt143.2.1 x3 x9 x25 x26 (wrap64 (x27 + 1)) x140000 x140001 x140002 x140003 x140004) else (some false)) else (some false)) else (some false)))) else (some false)) else (if x27 = 0 then (if bt143.2.1.toList = x2.toList then ((slices_Contains_int_int.f x3 bt143.2.2.2.1).bind fun t157 => (if t157 = true then (if bt149.2 = 0 then (if bt149.1.toList = bt143.2.1.toList then (index_leads.l0 k x0 bt143.2.1 x3 x9 x25 x26 (wrap64 (x27 + 1)) x140000 x140001 x140002 x140003 x140004) else (some false)) else (some false)) else (some false))) else (some false)) else ((slices_Contains_int_int.f x3 bt143.2.2.2.1).bind fun t158 => (if t158 = true then (if bt149.2 = 0 then (if bt149.1.toList = bt143.2.1.toList then (index_leads.l0 k x0 bt143.2.1 x3 x9 x25 x26 (wrap64 (x27 + 1)) x140000 x140001 x140002 x140003 x140004) else (some false)) else (some false)) else (some false))))) else (some false))) else (some false)) else (some false)))) else (none)) else (none)) else (some (decide ((x140004.length : Int) > 0)))
def index_leads.f (k : Nat) (l0 : List Int) (a1_0 : Int) (a1_1 : Int) (a1_2 : Int) (a1_3 : Int) (l1_4 : List Int) (a2 : ByteArray) (l3 : List Int) : Option (Bool) := (arena_Low.f l0 a1_2).bind fun bt140 => (index_leads.l0 k l0 a2 l3 bt140.1 l1_4 (l1_4.length : Int) 0 a1_0 a1_1 a1_2 a1_3 l1_4)
theorem index_leads.mono_l : ∀ k, (∀ y0 y1 y2 y3 y4 y5 y6 y7 y8 y9 y10 y11, LeO (index_leads.l0 k y0 y1 y2 y3 y4 y5 y6 y7 y8 y9 y10 y11) (index_leads.l0 (k + 1) y0 y1 y2 y3 y4 y5 y6 y7 y8 y9 y10 y11))
  | 0 => fun _ _ _ _ _ _ _ _ _ _ _ _ r h => by simp [index_leads.l0] at h
  | k + 1 => by
    have ih0 := index_leads.mono_l k
    · intro y0 y1 y2 y3 y4 y5 y6 y7 y8 y9 y10 y11
      unfold index_leads.l0
      repeat' first
      | (with_reducible exact ih0 _ _ _ _ _ _ _ _ _ _ _ _)
      | (with_reducible exact LeO.refl _)
      | (with_reducible exact LeO.none _)
      | (with_reducible refine LeO.ite ?_ ?_)
      | (with_reducible refine LeO.bind ?_ (fun _ => ?_))
      | exact ih0 _ _ _ _ _ _ _ _ _ _ _ _
      | exact LeO.none _
      | refine LeO.ite ?_ ?_
      | refine LeO.bind ?_ (fun _ => ?_)
theorem index_leads.mono : ∀ a0 a1 a2 a3 a4 a5 a6 a7 k, LeO (index_leads.f k a0 a1 a2 a3 a4 a5 a6 a7) (index_leads.f (k + 1) a0 a1 a2 a3 a4 a5 a6 a7) := by
 intro a0 a1 a2 a3 a4 a5 a6 a7 k
 have ih0 := index_leads.mono_l k
 unfold index_leads.f
 repeat' first
     | (with_reducible exact ih0 _ _ _ _ _ _ _ _ _ _ _ _)
     | (with_reducible exact LeO.refl _)
     | (with_reducible exact LeO.none _)
     | (with_reducible refine LeO.ite ?_ ?_)
     | (with_reducible refine LeO.bind ?_ (fun _ => ?_))
     | exact ih0 _ _ _ _ _ _ _ _ _ _ _ _
     | exact LeO.none _
     | refine LeO.ite ?_ ?_
     | refine LeO.bind ?_ (fun _ => ?_)
set_option maxHeartbeats 8000000 in
set_option maxRecDepth 100000 in
theorem index_leads.calls (k : Nat) (A0 : Option Addr) (c0 : Nat) (l0 : List Int) (a1_0 : Int) (a1_1 : Int) (a1_2 : Int) (a1_3 : Int) (A1_4 : Option Addr) (c1_4 : Nat) (l1_4 : List Int) (a2 : ByteArray) (A3 : Option Addr) (c3 : Nat) (l3 : List Int) (r : Bool) (w : World) (hr0 : Kd.C (Kd.int .i64) w A0 l0.length l0) (hc0 : l0.length ≤ c0) (hr1_4 : Kd.C (Kd.int .i64) w A1_4 l1_4.length l1_4) (hc1_4 : l1_4.length ≤ c1_4) (hr3 : Kd.C (Kd.int .i64) w A3 l3.length l3) (hc3 : l3.length ≤ c3) (h : index_leads.f k l0 a1_0 a1_1 a1_2 a1_3 l1_4 a2 l3 = some r) :
    Calls Try.prog 61 #[.slice A0 l0.length c0, .agg #[.int .i64 a1_0, .int .i64 a1_1, .int .i64 a1_2, .int .i64 a1_3, .slice A1_4 l1_4.length c1_4], .string a2, .slice A3 l3.length c3] w fun e w' => e = .returned (.bool r) ∧ Below w.heap.size w w' := by
 have hu24 := Try.underlying24
 have hu62 := Try.underlying62
 have HR0 := Aside0.mk hr0
 have HC0 := Aside0.mk hc0
 clear hr0 hc0
 have HR1_4 := Aside0.mk hr1_4
 have HC1_4 := Aside0.mk hc1_4
 clear hr1_4 hc1_4
 have HR3 := Aside0.mk hr3
 have HC3 := Aside0.mk hc3
 clear hr3 hc3
 have HB := Aside0.mk (Below.refl w.heap.size w)
 have H : ((arena_Low.f l0 a1_2).bind fun bt140 => (index_leads.l0 k l0 a2 l3 bt140.1 l1_4 (l1_4.length : Int) 0 a1_0 a1_1 a1_2 a1_3 l1_4)) = some r := h
 clear h
 replace H := Option.bind_eq_some_iff.mp H
 obtain ⟨⟨t140, t141⟩, A50, H⟩ := H
 replace H : (index_leads.l0 k l0 a2 l3 t140 l1_4 (l1_4.length : Int) 0 a1_0 a1_1 a1_2 a1_3 l1_4) = some r := H
 have A5 := Aside0.mk A50
 clear A50
 have H' := Aside0.mk H
 clear H
 go_enter Try.func61, Try.ntmps61
 go_wp2_with (first | ((with_reducible refine gate_dst (N := 5) rfl ?_); refine box_event ?hg (N := 5) ?hd (cs := #[.int .i64 a1_0, .int .i64 a1_1, .int .i64 a1_2, .int .i64 a1_3, .slice A1_4 l1_4.length c1_4]) (t := 24) ?hr ?_; (case hd => rfl); (case hg => rfl); (case hr => first | (go_simp; done) | (go_simp; rfl)); intro gb139 hg w6 hbox hb; have n0_ := Aside0.mk (below_step qh_ hb); have n1_ := Aside0.mk (hbox); have n2_ := Aside0.mk ((by rw [hg]; exact (below_size qh_) : w.heap.size ≤ gb139)); have n3_ := Aside0.mk ((by rw [hg]; exact (below_size qh_) : w.heap.size ≤ gb139)); clear HB; have HB := n0_; have BK139 := n1_; have GW139 := n2_; have GE139 := n3_; clear n0_ n1_ n2_ n3_; clear hb hbox hg; have hcz7_0 : w6.cell? ⟨gb139, 0, none⟩ = some (.int .i64 a1_0) := (blk_cell BK139.out 0).trans rfl; have hcz7_1 : w6.cell? ⟨gb139, 1, none⟩ = some (.int .i64 a1_1) := (blk_cell BK139.out 1).trans rfl; have hcz7_2 : w6.cell? ⟨gb139, 2, none⟩ = some (.int .i64 a1_2) := (blk_cell BK139.out 2).trans rfl; have hcz7_3 : w6.cell? ⟨gb139, 3, none⟩ = some (.int .i64 a1_3) := (blk_cell BK139.out 3).trans rfl; have hcz7_4 : w6.cell? ⟨gb139, 4, none⟩ = some (.slice A1_4 l1_4.length c1_4) := (blk_cell BK139.out 4).trans rfl; have hfz7_0 := blk_frozen BK139.out 0; have hfz7_1 := blk_frozen BK139.out 1; have hfz7_2 := blk_frozen BK139.out 2; have hfz7_3 := blk_frozen BK139.out 3; have hfz7_4 := blk_frozen BK139.out 4) | ((with_reducible refine gate_callee (f := 22) rfl ?_); refine goesL_ (some 21) rfl rfl Try.func22 (by kernel_rfl) rfl #[.slice A0 l0.length c0, .int .i64 a1_2] rfl qm_ ?_; (with_reducible refine (arena_Low.calls _ _ l0 a1_2 t140 t141 _ ?side1 ?side2 A5.out).mono ?_); (case side1 => repeat (first | exact (Kd.C_below HR0.out HB.out) | (with_reducible refine Kd.C_alloc ?_ _) | (with_reducible refine Kd.C_drewN ?_ _) | (with_reducible refine Kd.C_drew ?_))); (case side2 => exact HC0.out); rintro e w8 ⟨rfl, hb⟩; refine ⟨_, rfl, ?_⟩; have n0_ := Aside0.mk (blk_below (g := gb139) (o := .cells #[.int .i64 a1_0, .int .i64 a1_1, .int .i64 a1_2, .int .i64 a1_3, .slice A1_4 l1_4.length c1_4] 24 (0, 0)) (qb_ BK139.out) hb); have n1_ := Aside0.mk (below_step (qg1_ GE139.out) hb); clear BK139; clear HB; have BK139 := n0_; have HB := n1_; clear n0_ n1_; (try clear hb); (try clear hb2); (try clear hk); (try clear hi); have hcz9_0 : w8.cell? ⟨gb139, 0, none⟩ = some (.int .i64 a1_0) := (blk_cell BK139.out 0).trans rfl; have hcz9_1 : w8.cell? ⟨gb139, 1, none⟩ = some (.int .i64 a1_1) := (blk_cell BK139.out 1).trans rfl; have hcz9_2 : w8.cell? ⟨gb139, 2, none⟩ = some (.int .i64 a1_2) := (blk_cell BK139.out 2).trans rfl; have hcz9_3 : w8.cell? ⟨gb139, 3, none⟩ = some (.int .i64 a1_3) := (blk_cell BK139.out 3).trans rfl; have hcz9_4 : w8.cell? ⟨gb139, 4, none⟩ = some (.slice A1_4 l1_4.length c1_4) := (blk_cell BK139.out 4).trans rfl; have hfz9_0 := blk_frozen BK139.out 0; have hfz9_1 := blk_frozen BK139.out 1; have hfz9_2 := blk_frozen BK139.out 2; have hfz9_3 := blk_frozen BK139.out 3; have hfz9_4 := blk_frozen BK139.out 4))
 go_loopg [2, 27] k (fun kq v2 v27 w' => ∃ (x2_1 : ByteArray) (x27_1 : Int), v2 = .string x2_1 ∧ v27 = .int .i64 x27_1 ∧ Aside0 (index_leads.l0 kq l0 x2_1 l3 t140 l1_4 (l1_4.length : Int) x27_1 a1_0 a1_1 a1_2 a1_3 l1_4 = some r) ∧ Aside0 (kq ≤ k) ∧ Aside0 (w'.heap[gb139]? = some (.cells #[.int .i64 a1_0, .int .i64 a1_1, .int .i64 a1_2, .int .i64 a1_3, (.slice A1_4 l1_4.length c1_4)] 24 (0, 0))) ∧ Aside0 (Below w.heap.size w w'))
 case atStart => exact ⟨(a2), (0), (by first | rfl | (simp; done) | (simp [*]; done)), (by first | rfl | (simp; done) | (simp [*]; done)), H', ⟨Nat.le_refl _⟩, ⟨by (with_reducible repeat (first | refine blk_drewN ?_ _ | refine blk_drew ?_ | refine blk_alloc ?_ _)); exact BK139.out⟩, ⟨by repeat (first | (with_reducible first | exact HB.out | apply below_alloc | apply pw_below_drewN | apply below_drew1 | refine below_set ?_ GE139.out) | exact HB.out)⟩⟩
 case round =>
  clear H'
  try clear c1
  try clear c2
  try clear p2
  try clear c3
  try clear c6
  try clear hcz7_0
  try clear hcz7_1
  try clear hcz7_2
  try clear hcz7_3
  try clear hcz7_4
  try clear hcz9_0
  try clear hcz9_1
  try clear hcz9_2
  try clear hcz9_3
  try clear hcz9_4
  try clear hfz7_0
  try clear hfz7_1
  try clear hfz7_2
  try clear hfz7_3
  try clear hfz7_4
  try clear hfz9_0
  try clear hfz9_1
  try clear hfz9_2
  try clear hfz9_3
  try clear hfz9_4
  obtain ⟨x2_1, x27_1, rfl, rfl, HA, HK1, BK139, HB⟩ := hrel
  cases gk with
  | zero => exact absurd HA.out (by simp [index_leads.l0])
  | succ k1 =>
   have H := HA.out
   clear HA
   simp only [index_leads.l0] at H
   by_cases c10 : x27_1 < (l1_4.length : Int)
   rw [if_pos c10] at H
   have c10b0 : decide (x27_1 < (l1_4.length : Int)) = true := decide_eq_true c10
   clear c10
   by_cases cv1 : 0 ≤ x27_1
   rw [if_pos cv1] at H
   have c11b0 : decide (0 ≤ x27_1) = true := decide_eq_true cv1
   clear cv1
   by_cases cv2 : x27_1 < (l1_4.length : Int)
   rw [if_pos cv2] at H
   have c12b0 : decide (x27_1 < (l1_4.length : Int)) = true := decide_eq_true cv2
   clear cv2
   replace H := Option.bind_eq_some_iff.mp H
   obtain ⟨⟨tv1, tv2, tv3, tv4, tv5⟩, Av1, H⟩ := H
   try dsimp only at H
   have Av2 := Aside0.mk Av1
   clear Av1
   replace H := Option.bind_eq_some_iff.mp H
   obtain ⟨⟨tv6, tv7⟩, Av3, H⟩ := H
   try dsimp only at H
   have Av4 := Aside0.mk Av3
   clear Av3
   by_cases cv3 : tv5 = 0
   rw [if_pos cv3] at H
   have c15b0 : (tv5 == 0) = true := beq_iff_eq.mpr cv3
   have c15b1 : (tv5 != 0) = false := bne_eq_false_iff_eq.mpr cv3
   clear cv3
   by_cases cv4 : tv1 = 2
   rw [if_pos cv4] at H
   have c16b0 : (tv1 == 2) = true := beq_iff_eq.mpr cv4
   have c16b1 : (tv1 != 2) = false := bne_eq_false_iff_eq.mpr cv4
   clear cv4
   by_cases cv5 : a1_2 = 0
   rw [if_pos cv5] at H
   have c17b0 : (a1_2 == 0) = true := beq_iff_eq.mpr cv5
   have c17b1 : (a1_2 != 0) = false := bne_eq_false_iff_eq.mpr cv5
   clear cv5
   by_cases cv6 : x27_1 > 0
   rw [if_pos cv6] at H
   have c18b0 : decide (0 < x27_1) = true := decide_eq_true cv6
   clear cv6
   by_cases cv7 : ((Op.bytesLess x2_1.toList tv2.toList) = true)
   rw [if_pos cv7] at H
   have c19b0 : (Op.bytesLess x2_1.toList tv2.toList) = true := cv7
   clear cv7
   by_cases cv8 : x27_1 = 0
   rw [if_pos cv8] at H
   have c20b0 : (x27_1 == 0) = true := beq_iff_eq.mpr cv8
   have c20b1 : (x27_1 != 0) = false := bne_eq_false_iff_eq.mpr cv8
   clear cv8
   by_cases cv9 : tv2.toList = x2_1.toList
   rw [if_pos cv9] at H
   have c21b0 : (tv2.toList == x2_1.toList) = true := beq_iff_eq.mpr cv9
   have c21b1 : (tv2.toList != x2_1.toList) = false := bne_eq_false_iff_eq.mpr cv9
   clear cv9
   replace H := Option.bind_eq_some_iff.mp H
   obtain ⟨tv8, Av5, H⟩ := H
   try dsimp only at H
   have Av6 := Aside0.mk Av5
   clear Av5
   by_cases cv10 : tv8 = true
   subst cv10
   have Hv1 : (if tv7 = 0 then (if tv6.toList = tv2.toList then (index_leads.l0 k1 l0 tv2 l3 t140 l1_4 (l1_4.length : Int) (wrap64 (x27_1 + 1)) a1_0 a1_1 a1_2 a1_3 l1_4) else (some false)) else (some false)) = some r := by rw [if_pos rfl] at H; exact H
   clear H
   have H := Hv1
   clear Hv1
   by_cases cv11 : tv7 = 0
   rw [if_pos cv11] at H
   have c24b0 : (tv7 == 0) = true := beq_iff_eq.mpr cv11
   have c24b1 : (tv7 != 0) = false := bne_eq_false_iff_eq.mpr cv11
   clear cv11
   by_cases cv12 : tv6.toList = tv2.toList
   rw [if_pos cv12] at H
   have c25b0 : (tv6.toList == tv2.toList) = true := beq_iff_eq.mpr cv12
   have c25b1 : (tv6.toList != tv2.toList) = false := bne_eq_false_iff_eq.mpr cv12
   have hq0 := Aside0.mk True.intro
   rotate_left
   rw [if_neg cv12] at H
   have c25b0 : (tv6.toList == tv2.toList) = false := beq_eq_false_iff_ne.mpr cv12
   have c25b1 : (tv6.toList != tv2.toList) = true := bne_iff_ne.mpr cv12
   have hq1 := Aside0.mk True.intro
   rotate_left
   rw [if_neg cv11] at H
   have c24b0 : (tv7 == 0) = false := beq_eq_false_iff_ne.mpr cv11
   have c24b1 : (tv7 != 0) = true := bne_iff_ne.mpr cv11
   have hq2 := Aside0.mk True.intro
   rotate_left
   have hq3 := Aside0.mk True.intro
   rotate_left
   rw [if_neg cv9] at H
   have c21b0 : (tv2.toList == x2_1.toList) = false := beq_eq_false_iff_ne.mpr cv9
   have c21b1 : (tv2.toList != x2_1.toList) = true := bne_iff_ne.mpr cv9
   have hq4 := Aside0.mk True.intro
   rotate_left
   rw [if_neg cv8] at H
   have c20b0 : (x27_1 == 0) = false := beq_eq_false_iff_ne.mpr cv8
   have c20b1 : (x27_1 != 0) = true := bne_iff_ne.mpr cv8
   replace H := Option.bind_eq_some_iff.mp H
   obtain ⟨tv8, Av5, H⟩ := H
   try dsimp only at H
   have Av6 := Aside0.mk Av5
   clear Av5
   by_cases cv9 : tv8 = true
   subst cv9
   have Hv1 : (if tv7 = 0 then (if tv6.toList = tv2.toList then (index_leads.l0 k1 l0 tv2 l3 t140 l1_4 (l1_4.length : Int) (wrap64 (x27_1 + 1)) a1_0 a1_1 a1_2 a1_3 l1_4) else (some false)) else (some false)) = some r := by rw [if_pos rfl] at H; exact H
   clear H
   have H := Hv1
   clear Hv1
   by_cases cv10 : tv7 = 0
   rw [if_pos cv10] at H
   have c69b0 : (tv7 == 0) = true := beq_iff_eq.mpr cv10
   have c69b1 : (tv7 != 0) = false := bne_eq_false_iff_eq.mpr cv10
   clear cv10
   by_cases cv11 : tv6.toList = tv2.toList
   rw [if_pos cv11] at H
   have c70b0 : (tv6.toList == tv2.toList) = true := beq_iff_eq.mpr cv11
   have c70b1 : (tv6.toList != tv2.toList) = false := bne_eq_false_iff_eq.mpr cv11
   have hq5 := Aside0.mk True.intro
   rotate_left
   rw [if_neg cv11] at H
   have c70b0 : (tv6.toList == tv2.toList) = false := beq_eq_false_iff_ne.mpr cv11
   have c70b1 : (tv6.toList != tv2.toList) = true := bne_iff_ne.mpr cv11
   have hq1 := Aside0.mk True.intro
   rotate_left
   rw [if_neg cv10] at H
   have c69b0 : (tv7 == 0) = false := beq_eq_false_iff_ne.mpr cv10
   have c69b1 : (tv7 != 0) = true := bne_iff_ne.mpr cv10
   have hq2 := Aside0.mk True.intro
   rotate_left
   have hq6 := Aside0.mk True.intro
   rotate_left
   rw [if_neg cv7] at H
   have c19b0 : (Op.bytesLess x2_1.toList tv2.toList) = false := by simpa using cv7
   clear cv7
   have hq4 := Aside0.mk True.intro
   rotate_left
   rw [if_neg cv6] at H
   have c18b0 : decide (0 < x27_1) = false := decide_eq_false cv6
   clear cv6
   by_cases cv7 : x27_1 = 0
   rw [if_pos cv7] at H
   have c112b0 : (x27_1 == 0) = true := beq_iff_eq.mpr cv7
   have c112b1 : (x27_1 != 0) = false := bne_eq_false_iff_eq.mpr cv7
   clear cv7
   by_cases cv8 : tv2.toList = x2_1.toList
   rw [if_pos cv8] at H
   have c113b0 : (tv2.toList == x2_1.toList) = true := beq_iff_eq.mpr cv8
   have c113b1 : (tv2.toList != x2_1.toList) = false := bne_eq_false_iff_eq.mpr cv8
   clear cv8
   replace H := Option.bind_eq_some_iff.mp H
   obtain ⟨tv8, Av5, H⟩ := H
   try dsimp only at H
   have Av6 := Aside0.mk Av5
   clear Av5
   by_cases cv9 : tv8 = true
   subst cv9
   have Hv1 : (if tv7 = 0 then (if tv6.toList = tv2.toList then (index_leads.l0 k1 l0 tv2 l3 t140 l1_4 (l1_4.length : Int) (wrap64 (x27_1 + 1)) a1_0 a1_1 a1_2 a1_3 l1_4) else (some false)) else (some false)) = some r := by rw [if_pos rfl] at H; exact H
   clear H
   have H := Hv1
   clear Hv1
   by_cases cv10 : tv7 = 0
   rw [if_pos cv10] at H
   have c116b0 : (tv7 == 0) = true := beq_iff_eq.mpr cv10
   have c116b1 : (tv7 != 0) = false := bne_eq_false_iff_eq.mpr cv10
   clear cv10
   by_cases cv11 : tv6.toList = tv2.toList
   rw [if_pos cv11] at H
   have c117b0 : (tv6.toList == tv2.toList) = true := beq_iff_eq.mpr cv11
   have c117b1 : (tv6.toList != tv2.toList) = false := bne_eq_false_iff_eq.mpr cv11
   have hq5 := Aside0.mk True.intro
   rotate_left
   rw [if_neg cv11] at H
   have c117b0 : (tv6.toList == tv2.toList) = false := beq_eq_false_iff_ne.mpr cv11
   have c117b1 : (tv6.toList != tv2.toList) = true := bne_iff_ne.mpr cv11
   have hq1 := Aside0.mk True.intro
   rotate_left
   rw [if_neg cv10] at H
   have c116b0 : (tv7 == 0) = false := beq_eq_false_iff_ne.mpr cv10
   have c116b1 : (tv7 != 0) = true := bne_iff_ne.mpr cv10
   have hq2 := Aside0.mk True.intro
   rotate_left
   have hq6 := Aside0.mk True.intro
   rotate_left
   rw [if_neg cv8] at H
   have c113b0 : (tv2.toList == x2_1.toList) = false := beq_eq_false_iff_ne.mpr cv8
   have c113b1 : (tv2.toList != x2_1.toList) = true := bne_iff_ne.mpr cv8
   have hq4 := Aside0.mk True.intro
   rotate_left
   rw [if_neg cv7] at H
   have c112b0 : (x27_1 == 0) = false := beq_eq_false_iff_ne.mpr cv7
   have c112b1 : (x27_1 != 0) = true := bne_iff_ne.mpr cv7
   replace H := Option.bind_eq_some_iff.mp H
   obtain ⟨tv8, Av5, H⟩ := H
   try dsimp only at H
   have Av6 := Aside0.mk Av5
   clear Av5
   by_cases cv8 : tv8 = true
   subst cv8
   have Hv1 : (if tv7 = 0 then (if tv6.toList = tv2.toList then (index_leads.l0 k1 l0 tv2 l3 t140 l1_4 (l1_4.length : Int) (wrap64 (x27_1 + 1)) a1_0 a1_1 a1_2 a1_3 l1_4) else (some false)) else (some false)) = some r := by rw [if_pos rfl] at H; exact H
   clear H
   have H := Hv1
   clear Hv1
   by_cases cv9 : tv7 = 0
   rw [if_pos cv9] at H
   have c161b0 : (tv7 == 0) = true := beq_iff_eq.mpr cv9
   have c161b1 : (tv7 != 0) = false := bne_eq_false_iff_eq.mpr cv9
   clear cv9
   by_cases cv10 : tv6.toList = tv2.toList
   rw [if_pos cv10] at H
   have c162b0 : (tv6.toList == tv2.toList) = true := beq_iff_eq.mpr cv10
   have c162b1 : (tv6.toList != tv2.toList) = false := bne_eq_false_iff_eq.mpr cv10
   clear cv10
   have hq7 := Aside0.mk True.intro
   rotate_left
   rw [if_neg cv10] at H
   have c162b0 : (tv6.toList == tv2.toList) = false := beq_eq_false_iff_ne.mpr cv10
   have c162b1 : (tv6.toList != tv2.toList) = true := bne_iff_ne.mpr cv10
   have hq1 := Aside0.mk True.intro
   rotate_left
   rw [if_neg cv9] at H
   have c161b0 : (tv7 == 0) = false := beq_eq_false_iff_ne.mpr cv9
   have c161b1 : (tv7 != 0) = true := bne_iff_ne.mpr cv9
   have hq2 := Aside0.mk True.intro
   rotate_left
   replace cv8 := Bool.eq_false_iff.mpr cv8
   subst cv8
   have hq8 := Aside0.mk True.intro
   rotate_left
   rw [if_neg cv5] at H
   have c17b0 : (a1_2 == 0) = false := beq_eq_false_iff_ne.mpr cv5
   have c17b1 : (a1_2 != 0) = true := bne_iff_ne.mpr cv5
   by_cases cv6 : ((Op.bytesLess tv2.toList t140.toList) = true)
   rw [if_pos cv6] at H
   have c197b0 : (Op.bytesLess tv2.toList t140.toList) = true := cv6
   clear cv6
   by_cases cv7 : x27_1 > 0
   rw [if_pos cv7] at H
   have c198b0 : decide (0 < x27_1) = true := decide_eq_true cv7
   clear cv7
   by_cases cv8 : ((Op.bytesLess x2_1.toList tv2.toList) = true)
   rw [if_pos cv8] at H
   have c199b0 : (Op.bytesLess x2_1.toList tv2.toList) = true := cv8
   clear cv8
   by_cases cv9 : x27_1 = 0
   rw [if_pos cv9] at H
   have c200b0 : (x27_1 == 0) = true := beq_iff_eq.mpr cv9
   have c200b1 : (x27_1 != 0) = false := bne_eq_false_iff_eq.mpr cv9
   clear cv9
   by_cases cv10 : tv2.toList = x2_1.toList
   rw [if_pos cv10] at H
   have c201b0 : (tv2.toList == x2_1.toList) = true := beq_iff_eq.mpr cv10
   have c201b1 : (tv2.toList != x2_1.toList) = false := bne_eq_false_iff_eq.mpr cv10
   clear cv10
   replace H := Option.bind_eq_some_iff.mp H
   obtain ⟨tv8, Av5, H⟩ := H
   try dsimp only at H
   have Av6 := Aside0.mk Av5
   clear Av5
   by_cases cv11 : tv8 = true
   subst cv11
   have Hv1 : (if tv7 = 0 then (if tv6.toList = tv2.toList then (index_leads.l0 k1 l0 tv2 l3 t140 l1_4 (l1_4.length : Int) (wrap64 (x27_1 + 1)) a1_0 a1_1 a1_2 a1_3 l1_4) else (some false)) else (some false)) = some r := by rw [if_pos rfl] at H; exact H
   clear H
   have H := Hv1
   clear Hv1
   by_cases cv12 : tv7 = 0
   rw [if_pos cv12] at H
   have c204b0 : (tv7 == 0) = true := beq_iff_eq.mpr cv12
   have c204b1 : (tv7 != 0) = false := bne_eq_false_iff_eq.mpr cv12
   clear cv12
   by_cases cv13 : tv6.toList = tv2.toList
   rw [if_pos cv13] at H
   have c205b0 : (tv6.toList == tv2.toList) = true := beq_iff_eq.mpr cv13
   have c205b1 : (tv6.toList != tv2.toList) = false := bne_eq_false_iff_eq.mpr cv13
   clear cv13
   have hq7 := Aside0.mk True.intro
   rotate_left
   rw [if_neg cv13] at H
   have c205b0 : (tv6.toList == tv2.toList) = false := beq_eq_false_iff_ne.mpr cv13
   have c205b1 : (tv6.toList != tv2.toList) = true := bne_iff_ne.mpr cv13
   have hq1 := Aside0.mk True.intro
   rotate_left
   rw [if_neg cv12] at H
   have c204b0 : (tv7 == 0) = false := beq_eq_false_iff_ne.mpr cv12
   have c204b1 : (tv7 != 0) = true := bne_iff_ne.mpr cv12
   have hq2 := Aside0.mk True.intro
   rotate_left
   replace cv11 := Bool.eq_false_iff.mpr cv11
   subst cv11
   have hq8 := Aside0.mk True.intro
   rotate_left
   rw [if_neg cv10] at H
   have c201b0 : (tv2.toList == x2_1.toList) = false := beq_eq_false_iff_ne.mpr cv10
   have c201b1 : (tv2.toList != x2_1.toList) = true := bne_iff_ne.mpr cv10
   have hq4 := Aside0.mk True.intro
   rotate_left
   rw [if_neg cv9] at H
   have c200b0 : (x27_1 == 0) = false := beq_eq_false_iff_ne.mpr cv9
   have c200b1 : (x27_1 != 0) = true := bne_iff_ne.mpr cv9
   replace H := Option.bind_eq_some_iff.mp H
   obtain ⟨tv8, Av5, H⟩ := H
   try dsimp only at H
   have Av6 := Aside0.mk Av5
   clear Av5
   by_cases cv10 : tv8 = true
   subst cv10
   have Hv1 : (if tv7 = 0 then (if tv6.toList = tv2.toList then (index_leads.l0 k1 l0 tv2 l3 t140 l1_4 (l1_4.length : Int) (wrap64 (x27_1 + 1)) a1_0 a1_1 a1_2 a1_3 l1_4) else (some false)) else (some false)) = some r := by rw [if_pos rfl] at H; exact H
   clear H
   have H := Hv1
   clear Hv1
   by_cases cv11 : tv7 = 0
   rw [if_pos cv11] at H
   have c249b0 : (tv7 == 0) = true := beq_iff_eq.mpr cv11
   have c249b1 : (tv7 != 0) = false := bne_eq_false_iff_eq.mpr cv11
   clear cv11
   by_cases cv12 : tv6.toList = tv2.toList
   rw [if_pos cv12] at H
   have c250b0 : (tv6.toList == tv2.toList) = true := beq_iff_eq.mpr cv12
   have c250b1 : (tv6.toList != tv2.toList) = false := bne_eq_false_iff_eq.mpr cv12
   have hq0 := Aside0.mk True.intro
   rotate_left
   rw [if_neg cv12] at H
   have c250b0 : (tv6.toList == tv2.toList) = false := beq_eq_false_iff_ne.mpr cv12
   have c250b1 : (tv6.toList != tv2.toList) = true := bne_iff_ne.mpr cv12
   have hq1 := Aside0.mk True.intro
   rotate_left
   rw [if_neg cv11] at H
   have c249b0 : (tv7 == 0) = false := beq_eq_false_iff_ne.mpr cv11
   have c249b1 : (tv7 != 0) = true := bne_iff_ne.mpr cv11
   have hq2 := Aside0.mk True.intro
   rotate_left
   have hq3 := Aside0.mk True.intro
   rotate_left
   rw [if_neg cv8] at H
   have c199b0 : (Op.bytesLess x2_1.toList tv2.toList) = false := by simpa using cv8
   clear cv8
   have hq4 := Aside0.mk True.intro
   rotate_left
   rw [if_neg cv7] at H
   have c198b0 : decide (0 < x27_1) = false := decide_eq_false cv7
   clear cv7
   by_cases cv8 : x27_1 = 0
   rw [if_pos cv8] at H
   have c292b0 : (x27_1 == 0) = true := beq_iff_eq.mpr cv8
   have c292b1 : (x27_1 != 0) = false := bne_eq_false_iff_eq.mpr cv8
   clear cv8
   by_cases cv9 : tv2.toList = x2_1.toList
   rw [if_pos cv9] at H
   have c293b0 : (tv2.toList == x2_1.toList) = true := beq_iff_eq.mpr cv9
   have c293b1 : (tv2.toList != x2_1.toList) = false := bne_eq_false_iff_eq.mpr cv9
   clear cv9
   replace H := Option.bind_eq_some_iff.mp H
   obtain ⟨tv8, Av5, H⟩ := H
   try dsimp only at H
   have Av6 := Aside0.mk Av5
   clear Av5
   by_cases cv10 : tv8 = true
   subst cv10
   have Hv1 : (if tv7 = 0 then (if tv6.toList = tv2.toList then (index_leads.l0 k1 l0 tv2 l3 t140 l1_4 (l1_4.length : Int) (wrap64 (x27_1 + 1)) a1_0 a1_1 a1_2 a1_3 l1_4) else (some false)) else (some false)) = some r := by rw [if_pos rfl] at H; exact H
   clear H
   have H := Hv1
   clear Hv1
   by_cases cv11 : tv7 = 0
   rw [if_pos cv11] at H
   have c296b0 : (tv7 == 0) = true := beq_iff_eq.mpr cv11
   have c296b1 : (tv7 != 0) = false := bne_eq_false_iff_eq.mpr cv11
   clear cv11
   by_cases cv12 : tv6.toList = tv2.toList
   rw [if_pos cv12] at H
   have c297b0 : (tv6.toList == tv2.toList) = true := beq_iff_eq.mpr cv12
   have c297b1 : (tv6.toList != tv2.toList) = false := bne_eq_false_iff_eq.mpr cv12
   have hq0 := Aside0.mk True.intro
   rotate_left
   rw [if_neg cv12] at H
   have c297b0 : (tv6.toList == tv2.toList) = false := beq_eq_false_iff_ne.mpr cv12
   have c297b1 : (tv6.toList != tv2.toList) = true := bne_iff_ne.mpr cv12
   have hq1 := Aside0.mk True.intro
   rotate_left
   rw [if_neg cv11] at H
   have c296b0 : (tv7 == 0) = false := beq_eq_false_iff_ne.mpr cv11
   have c296b1 : (tv7 != 0) = true := bne_iff_ne.mpr cv11
   have hq2 := Aside0.mk True.intro
   rotate_left
   have hq3 := Aside0.mk True.intro
   rotate_left
   rw [if_neg cv9] at H
   have c293b0 : (tv2.toList == x2_1.toList) = false := beq_eq_false_iff_ne.mpr cv9
   have c293b1 : (tv2.toList != x2_1.toList) = true := bne_iff_ne.mpr cv9
   have hq4 := Aside0.mk True.intro
   rotate_left
   rw [if_neg cv8] at H
   have c292b0 : (x27_1 == 0) = false := beq_eq_false_iff_ne.mpr cv8
   have c292b1 : (x27_1 != 0) = true := bne_iff_ne.mpr cv8
   replace H := Option.bind_eq_some_iff.mp H
   obtain ⟨tv8, Av5, H⟩ := H
   try dsimp only at H
   have Av6 := Aside0.mk Av5
   clear Av5
   by_cases cv9 : tv8 = true
   subst cv9
   have Hv1 : (if tv7 = 0 then (if tv6.toList = tv2.toList then (index_leads.l0 k1 l0 tv2 l3 t140 l1_4 (l1_4.length : Int) (wrap64 (x27_1 + 1)) a1_0 a1_1 a1_2 a1_3 l1_4) else (some false)) else (some false)) = some r := by rw [if_pos rfl] at H; exact H
   clear H
   have H := Hv1
   clear Hv1
   by_cases cv10 : tv7 = 0
   rw [if_pos cv10] at H
   have c341b0 : (tv7 == 0) = true := beq_iff_eq.mpr cv10
   have c341b1 : (tv7 != 0) = false := bne_eq_false_iff_eq.mpr cv10
   clear cv10
   by_cases cv11 : tv6.toList = tv2.toList
   rw [if_pos cv11] at H
   have c342b0 : (tv6.toList == tv2.toList) = true := beq_iff_eq.mpr cv11
   have c342b1 : (tv6.toList != tv2.toList) = false := bne_eq_false_iff_eq.mpr cv11
   have hq5 := Aside0.mk True.intro
   rotate_left
   rw [if_neg cv11] at H
   have c342b0 : (tv6.toList == tv2.toList) = false := beq_eq_false_iff_ne.mpr cv11
   have c342b1 : (tv6.toList != tv2.toList) = true := bne_iff_ne.mpr cv11
   have hq1 := Aside0.mk True.intro
   rotate_left
   rw [if_neg cv10] at H
   have c341b0 : (tv7 == 0) = false := beq_eq_false_iff_ne.mpr cv10
   have c341b1 : (tv7 != 0) = true := bne_iff_ne.mpr cv10
   have hq2 := Aside0.mk True.intro
   rotate_left
   have hq6 := Aside0.mk True.intro
   rotate_left
   rw [if_neg cv6] at H
   have c197b0 : (Op.bytesLess tv2.toList t140.toList) = false := by simpa using cv6
   clear cv6
   have hq4 := Aside0.mk True.intro
   rotate_left
   rw [if_neg cv4] at H
   have c16b0 : (tv1 == 2) = false := beq_eq_false_iff_ne.mpr cv4
   have c16b1 : (tv1 != 2) = true := bne_iff_ne.mpr cv4
   obtain rfl := Option.some.inj H
   have pv1 : 0 ≤ (x27_1 : Int) := of_decide_eq_true (by first | (with_reducible assumption) | assumption)
   have qv1 : x27_1 < (l1_4.length : Int) := of_decide_eq_true (by first | (with_reducible assumption) | assumption)
   obtain ⟨adv1, ev1, hxv1⟩ := Kd.at_int HR1_4.out x27_1 pv1 qv1
   cases ev1
   replace hxv1 := kc_ HB.out hxv1
   replace pv1 := eq_true pv1
   replace qv1 := eq_true qv1
   focus go_wp2_with (first | ((with_reducible refine gate_callee (f := 44) rfl ?_); refine goesL_ (some 35) rfl rfl Try.func44 (by kernel_rfl) rfl #[.slice A0 l0.length c0, .int .i64 (rd l1_4 x27_1)] rfl qm_ ?_; (with_reducible refine (rec_Read.calls _ _ l0 (rd l1_4 x27_1) tv1 tv2 tv3 tv4 tv5 _ ?side1 ?side2 Av2.out).mono ?_); (case side1 => repeat (first | exact (Kd.C_below HR0.out HB.out) | (with_reducible refine Kd.C_alloc ?_ _) | (with_reducible refine Kd.C_drewN ?_ _) | (with_reducible refine Kd.C_drew ?_))); (case side2 => exact HC0.out); rintro e wv1 ⟨rfl, hb⟩; refine ⟨_, rfl, ?_⟩; have n0_ := Aside0.mk (blk_below (g := gb139) (o := .cells #[.int .i64 a1_0, .int .i64 a1_1, .int .i64 a1_2, .int .i64 a1_3, .slice (some adv1) l1_4.length c1_4] 24 (0, 0)) (qb_ BK139.out) hb); have n1_ := Aside0.mk (below_step (qg1_ GE139.out) hb); clear BK139; clear HB; have BK139 := n0_; have HB := n1_; clear n0_ n1_; (try clear hb); (try clear hb2); (try clear hk); (try clear hi)) | ((with_reducible refine gate_dst (N := 13) rfl ?_); refine box_event ?hg (N := 13) ?hd (cs := #[.int .i64 0, .string (⟨#[]⟩ : ByteArray), .string (⟨#[]⟩ : ByteArray), .int .i64 0]) (t := 62) ?hr ?_; (case hd => rfl); (case hg => rfl); (case hr => first | (go_simp; done) | (go_simp; rfl)); intro gbv1 hg wv2 hbox hb; have n0_ := Aside0.mk (blk_below (g := gb139) (o := .cells #[.int .i64 a1_0, .int .i64 a1_1, .int .i64 a1_2, .int .i64 a1_3, .slice (some adv1) l1_4.length c1_4] 24 (0, 0)) (qb_ BK139.out) hb); have n1_ := Aside0.mk (below_step (qg1_ GE139.out) hb); have n2_ := Aside0.mk (hbox); have n3_ := Aside0.mk ((by rw [hg]; exact (below_size (qg1_ GE139.out)) : w.heap.size ≤ gbv1)); have n4_ := Aside0.mk ((by rw [hg]; exact (below_size (qg1_ GE139.out)) : w.heap.size ≤ gbv1)); have n5_ := Aside0.mk ((by rw [hg]; exact Nat.ne_of_lt (blk_lt (g := gb139) (o := .cells #[.int .i64 a1_0, .int .i64 a1_1, .int .i64 a1_2, .int .i64 a1_3, .slice (some adv1) l1_4.length c1_4] 24 (0, 0)) (qb_ BK139.out)) : gb139 ≠ gbv1)); have n6_ := Aside0.mk ((by rw [hg]; exact Nat.ne_of_gt (blk_lt (g := gb139) (o := .cells #[.int .i64 a1_0, .int .i64 a1_1, .int .i64 a1_2, .int .i64 a1_3, .slice (some adv1) l1_4.length c1_4] 24 (0, 0)) (qb_ BK139.out)) : gbv1 ≠ gb139)); clear BK139; clear HB; have BK139 := n0_; have HB := n1_; have BKv1 := n2_; have GWv1 := n3_; have GEv1 := n4_; have NBv1 := n5_; have NBv2 := n6_; clear n0_ n1_ n2_ n3_ n4_ n5_ n6_; clear hb hbox hg; have hnbv1 := NBv2.out; have hncv1 := NBv1.out; have hczv1 : wv2.cell? ⟨gbv1, 0, none⟩ = some (.int .i64 0) := (blk_cell BKv1.out 0).trans rfl; have hczv2 : wv2.cell? ⟨gbv1, 1, none⟩ = some (.string (⟨#[]⟩ : ByteArray)) := (blk_cell BKv1.out 1).trans rfl; have hczv3 : wv2.cell? ⟨gbv1, 2, none⟩ = some (.string (⟨#[]⟩ : ByteArray)) := (blk_cell BKv1.out 2).trans rfl; have hczv4 : wv2.cell? ⟨gbv1, 3, none⟩ = some (.int .i64 0) := (blk_cell BKv1.out 3).trans rfl; have hfzv1 := blk_frozen BKv1.out 0; have hfzv2 := blk_frozen BKv1.out 1; have hfzv3 := blk_frozen BKv1.out 2; have hfzv4 := blk_frozen BKv1.out 3) | ((with_reducible refine gate_callee (f := 22) rfl ?_); refine goesL_ (some 42) rfl rfl Try.func22 (by kernel_rfl) rfl #[.slice A0 l0.length c0, .int .i64 tv4] rfl qm_ ?_; (with_reducible refine (arena_Low.calls _ _ l0 tv4 tv6 tv7 _ ?side1 ?side2 Av4.out).mono ?_); (case side1 => exact Kd.C_below HR0.out (qg2_ GE139.out GEv1.out)); (case side2 => exact HC0.out); rintro e wv3 ⟨rfl, hb⟩; refine ⟨_, rfl, ?_⟩; have n0_ := Aside0.mk (blk_below (g := gb139) (o := .cells #[.int .i64 a1_0, .int .i64 a1_1, .int .i64 a1_2, .int .i64 a1_3, .slice (some adv1) l1_4.length c1_4] 24 (0, 0)) (by (with_reducible repeat (first | refine blk_drewN ?_ _ | refine blk_drew ?_ | refine blk_alloc ?_ _)); refine blk_far ?_ NBv1.out _; (with_reducible repeat (first | refine blk_drewN ?_ _ | refine blk_drew ?_ | refine blk_alloc ?_ _)); refine blk_far ?_ NBv1.out _; (with_reducible repeat (first | refine blk_drewN ?_ _ | refine blk_drew ?_ | refine blk_alloc ?_ _)); refine blk_far ?_ NBv1.out _; (with_reducible repeat (first | refine blk_drewN ?_ _ | refine blk_drew ?_ | refine blk_alloc ?_ _)); refine blk_far ?_ NBv1.out _; (with_reducible repeat (first | refine blk_drewN ?_ _ | refine blk_drew ?_ | refine blk_alloc ?_ _)); exact BK139.out) hb); have n1_ := Aside0.mk (blk_below (g := gbv1) (o := .cells #[.int .i64 tv1, .string tv2, .string tv3, .int .i64 tv4] 62 (0, 0)) (by (with_reducible repeat (first | refine blk_drewN ?_ _ | refine blk_drew ?_ | refine blk_alloc ?_ _)); refine blk_put (cs := #[.int .i64 tv1, .string tv2, .string tv3, .int .i64 0]) ?_ 3 _ rfl; (with_reducible repeat (first | refine blk_drewN ?_ _ | refine blk_drew ?_ | refine blk_alloc ?_ _)); refine blk_put (cs := #[.int .i64 tv1, .string tv2, .string (⟨#[]⟩ : ByteArray), .int .i64 0]) ?_ 2 _ rfl; (with_reducible repeat (first | refine blk_drewN ?_ _ | refine blk_drew ?_ | refine blk_alloc ?_ _)); refine blk_put (cs := #[.int .i64 tv1, .string (⟨#[]⟩ : ByteArray), .string (⟨#[]⟩ : ByteArray), .int .i64 0]) ?_ 1 _ rfl; (with_reducible repeat (first | refine blk_drewN ?_ _ | refine blk_drew ?_ | refine blk_alloc ?_ _)); refine blk_put (cs := #[.int .i64 0, .string (⟨#[]⟩ : ByteArray), .string (⟨#[]⟩ : ByteArray), .int .i64 0]) ?_ 0 _ rfl; (with_reducible repeat (first | refine blk_drewN ?_ _ | refine blk_drew ?_ | refine blk_alloc ?_ _)); exact BKv1.out) hb); have n2_ := Aside0.mk (below_step (qg2_ GE139.out GEv1.out) hb); clear BK139; clear BKv1; clear HB; have BK139 := n0_; have BKv1 := n1_; have HB := n2_; clear n0_ n1_ n2_; (try clear hb); (try clear hb2); (try clear hk); (try clear hi); have hczv5 : wv3.cell? ⟨gbv1, 0, none⟩ = some (.int .i64 tv1) := (blk_cell BKv1.out 0).trans rfl; have hczv6 : wv3.cell? ⟨gbv1, 1, none⟩ = some (.string tv2) := (blk_cell BKv1.out 1).trans rfl; have hczv7 : wv3.cell? ⟨gbv1, 2, none⟩ = some (.string tv3) := (blk_cell BKv1.out 2).trans rfl; have hczv8 : wv3.cell? ⟨gbv1, 3, none⟩ = some (.int .i64 tv4) := (blk_cell BKv1.out 3).trans rfl; have hfzv5 := blk_frozen BKv1.out 0; have hfzv6 := blk_frozen BKv1.out 1; have hfzv7 := blk_frozen BKv1.out 2; have hfzv8 := blk_frozen BKv1.out 3))
   have hq9 := Aside0.mk True.intro
   rotate_left
   rw [if_neg cv3] at H
   have c15b0 : (tv5 == 0) = false := beq_eq_false_iff_ne.mpr cv3
   have c15b1 : (tv5 != 0) = true := bne_iff_ne.mpr cv3
   obtain rfl := Option.some.inj H
   have pv1 : 0 ≤ (x27_1 : Int) := of_decide_eq_true (by first | (with_reducible assumption) | assumption)
   have qv1 : x27_1 < (l1_4.length : Int) := of_decide_eq_true (by first | (with_reducible assumption) | assumption)
   obtain ⟨adv1, ev1, hxv1⟩ := Kd.at_int HR1_4.out x27_1 pv1 qv1
   cases ev1
   replace hxv1 := kc_ HB.out hxv1
   replace pv1 := eq_true pv1
   replace qv1 := eq_true qv1
   focus go_wp2_with (first | ((with_reducible refine gate_callee (f := 44) rfl ?_); refine goesL_ (some 35) rfl rfl Try.func44 (by kernel_rfl) rfl #[.slice A0 l0.length c0, .int .i64 (rd l1_4 x27_1)] rfl qm_ ?_; (with_reducible refine (rec_Read.calls _ _ l0 (rd l1_4 x27_1) tv1 tv2 tv3 tv4 tv5 _ ?side1 ?side2 Av2.out).mono ?_); (case side1 => repeat (first | exact (Kd.C_below HR0.out HB.out) | (with_reducible refine Kd.C_alloc ?_ _) | (with_reducible refine Kd.C_drewN ?_ _) | (with_reducible refine Kd.C_drew ?_))); (case side2 => exact HC0.out); rintro e wv1 ⟨rfl, hb⟩; refine ⟨_, rfl, ?_⟩; have n0_ := Aside0.mk (blk_below (g := gb139) (o := .cells #[.int .i64 a1_0, .int .i64 a1_1, .int .i64 a1_2, .int .i64 a1_3, .slice (some adv1) l1_4.length c1_4] 24 (0, 0)) (qb_ BK139.out) hb); have n1_ := Aside0.mk (below_step (qg1_ GE139.out) hb); clear BK139; clear HB; have BK139 := n0_; have HB := n1_; clear n0_ n1_; (try clear hb); (try clear hb2); (try clear hk); (try clear hi)) | ((with_reducible refine gate_dst (N := 13) rfl ?_); refine box_event ?hg (N := 13) ?hd (cs := #[.int .i64 0, .string (⟨#[]⟩ : ByteArray), .string (⟨#[]⟩ : ByteArray), .int .i64 0]) (t := 62) ?hr ?_; (case hd => rfl); (case hg => rfl); (case hr => first | (go_simp; done) | (go_simp; rfl)); intro gbv1 hg wv2 hbox hb; have n0_ := Aside0.mk (blk_below (g := gb139) (o := .cells #[.int .i64 a1_0, .int .i64 a1_1, .int .i64 a1_2, .int .i64 a1_3, .slice (some adv1) l1_4.length c1_4] 24 (0, 0)) (qb_ BK139.out) hb); have n1_ := Aside0.mk (below_step (qg1_ GE139.out) hb); have n2_ := Aside0.mk (hbox); have n3_ := Aside0.mk ((by rw [hg]; exact (below_size (qg1_ GE139.out)) : w.heap.size ≤ gbv1)); have n4_ := Aside0.mk ((by rw [hg]; exact (below_size (qg1_ GE139.out)) : w.heap.size ≤ gbv1)); have n5_ := Aside0.mk ((by rw [hg]; exact Nat.ne_of_lt (blk_lt (g := gb139) (o := .cells #[.int .i64 a1_0, .int .i64 a1_1, .int .i64 a1_2, .int .i64 a1_3, .slice (some adv1) l1_4.length c1_4] 24 (0, 0)) (qb_ BK139.out)) : gb139 ≠ gbv1)); have n6_ := Aside0.mk ((by rw [hg]; exact Nat.ne_of_gt (blk_lt (g := gb139) (o := .cells #[.int .i64 a1_0, .int .i64 a1_1, .int .i64 a1_2, .int .i64 a1_3, .slice (some adv1) l1_4.length c1_4] 24 (0, 0)) (qb_ BK139.out)) : gbv1 ≠ gb139)); clear BK139; clear HB; have BK139 := n0_; have HB := n1_; have BKv1 := n2_; have GWv1 := n3_; have GEv1 := n4_; have NBv1 := n5_; have NBv2 := n6_; clear n0_ n1_ n2_ n3_ n4_ n5_ n6_; clear hb hbox hg; have hnbv1 := NBv2.out; have hncv1 := NBv1.out; have hczv1 : wv2.cell? ⟨gbv1, 0, none⟩ = some (.int .i64 0) := (blk_cell BKv1.out 0).trans rfl; have hczv2 : wv2.cell? ⟨gbv1, 1, none⟩ = some (.string (⟨#[]⟩ : ByteArray)) := (blk_cell BKv1.out 1).trans rfl; have hczv3 : wv2.cell? ⟨gbv1, 2, none⟩ = some (.string (⟨#[]⟩ : ByteArray)) := (blk_cell BKv1.out 2).trans rfl; have hczv4 : wv2.cell? ⟨gbv1, 3, none⟩ = some (.int .i64 0) := (blk_cell BKv1.out 3).trans rfl; have hfzv1 := blk_frozen BKv1.out 0; have hfzv2 := blk_frozen BKv1.out 1; have hfzv3 := blk_frozen BKv1.out 2; have hfzv4 := blk_frozen BKv1.out 3) | ((with_reducible refine gate_callee (f := 22) rfl ?_); refine goesL_ (some 42) rfl rfl Try.func22 (by kernel_rfl) rfl #[.slice A0 l0.length c0, .int .i64 tv4] rfl qm_ ?_; (with_reducible refine (arena_Low.calls _ _ l0 tv4 tv6 tv7 _ ?side1 ?side2 Av4.out).mono ?_); (case side1 => exact Kd.C_below HR0.out (qg2_ GE139.out GEv1.out)); (case side2 => exact HC0.out); rintro e wv3 ⟨rfl, hb⟩; refine ⟨_, rfl, ?_⟩; have n0_ := Aside0.mk (blk_below (g := gb139) (o := .cells #[.int .i64 a1_0, .int .i64 a1_1, .int .i64 a1_2, .int .i64 a1_3, .slice (some adv1) l1_4.length c1_4] 24 (0, 0)) (by (with_reducible repeat (first | refine blk_drewN ?_ _ | refine blk_drew ?_ | refine blk_alloc ?_ _)); refine blk_far ?_ NBv1.out _; (with_reducible repeat (first | refine blk_drewN ?_ _ | refine blk_drew ?_ | refine blk_alloc ?_ _)); refine blk_far ?_ NBv1.out _; (with_reducible repeat (first | refine blk_drewN ?_ _ | refine blk_drew ?_ | refine blk_alloc ?_ _)); refine blk_far ?_ NBv1.out _; (with_reducible repeat (first | refine blk_drewN ?_ _ | refine blk_drew ?_ | refine blk_alloc ?_ _)); refine blk_far ?_ NBv1.out _; (with_reducible repeat (first | refine blk_drewN ?_ _ | refine blk_drew ?_ | refine blk_alloc ?_ _)); exact BK139.out) hb); have n1_ := Aside0.mk (blk_below (g := gbv1) (o := .cells #[.int .i64 tv1, .string tv2, .string tv3, .int .i64 tv4] 62 (0, 0)) (by (with_reducible repeat (first | refine blk_drewN ?_ _ | refine blk_drew ?_ | refine blk_alloc ?_ _)); refine blk_put (cs := #[.int .i64 tv1, .string tv2, .string tv3, .int .i64 0]) ?_ 3 _ rfl; (with_reducible repeat (first | refine blk_drewN ?_ _ | refine blk_drew ?_ | refine blk_alloc ?_ _)); refine blk_put (cs := #[.int .i64 tv1, .string tv2, .string (⟨#[]⟩ : ByteArray), .int .i64 0]) ?_ 2 _ rfl; (with_reducible repeat (first | refine blk_drewN ?_ _ | refine blk_drew ?_ | refine blk_alloc ?_ _)); refine blk_put (cs := #[.int .i64 tv1, .string (⟨#[]⟩ : ByteArray), .string (⟨#[]⟩ : ByteArray), .int .i64 0]) ?_ 1 _ rfl; (with_reducible repeat (first | refine blk_drewN ?_ _ | refine blk_drew ?_ | refine blk_alloc ?_ _)); refine blk_put (cs := #[.int .i64 0, .string (⟨#[]⟩ : ByteArray), .string (⟨#[]⟩ : ByteArray), .int .i64 0]) ?_ 0 _ rfl; (with_reducible repeat (first | refine blk_drewN ?_ _ | refine blk_drew ?_ | refine blk_alloc ?_ _)); exact BKv1.out) hb); have n2_ := Aside0.mk (below_step (qg2_ GE139.out GEv1.out) hb); clear BK139; clear BKv1; clear HB; have BK139 := n0_; have BKv1 := n1_; have HB := n2_; clear n0_ n1_ n2_; (try clear hb); (try clear hb2); (try clear hk); (try clear hi)))
   have hq9 := Aside0.mk True.intro
   rotate_left
   · rw [if_neg cv2] at H
     exact absurd H (by simp)
   · rw [if_neg cv1] at H
     exact absurd H (by simp)
   · rw [if_neg c10] at H
     have c10b0 : decide (x27_1 < (l1_4.length : Int)) = false := decide_eq_false c10
     clear c10
     obtain rfl := Option.some.inj H
     have hczv1 : wr.cell? ⟨gb139, 0, none⟩ = some (.int .i64 a1_0) := (blk_cell BK139.out 0).trans rfl
     have hczv2 : wr.cell? ⟨gb139, 1, none⟩ = some (.int .i64 a1_1) := (blk_cell BK139.out 1).trans rfl
     have hczv3 : wr.cell? ⟨gb139, 2, none⟩ = some (.int .i64 a1_2) := (blk_cell BK139.out 2).trans rfl
     have hczv4 : wr.cell? ⟨gb139, 3, none⟩ = some (.int .i64 a1_3) := (blk_cell BK139.out 3).trans rfl
     have hczv5 : wr.cell? ⟨gb139, 4, none⟩ = some (.slice A1_4 l1_4.length c1_4) := (blk_cell BK139.out 4).trans rfl
     have hfzv1 := blk_frozen BK139.out 0
     have hfzv2 := blk_frozen BK139.out 1
     have hfzv3 := blk_frozen BK139.out 2
     have hfzv4 := blk_frozen BK139.out 3
     have hfzv5 := blk_frozen BK139.out 4
     go_wp2
     go_ret
     exact ⟨qe_, by repeat (first | (with_reducible first | exact HB.out | apply below_alloc | apply pw_below_drewN | apply below_drew1 | refine below_set ?_ GE139.out) | exact HB.out)⟩
   all_goals first
     | (clear hq0
        clear cv12
        have H' := Aside0.mk H
        clear H
        have pz1 : 0 ≤ (x27_1 : Int) := of_decide_eq_true (by first | (with_reducible assumption) | assumption)
        have qz1 : x27_1 < (l1_4.length : Int) := of_decide_eq_true (by first | (with_reducible assumption) | assumption)
        obtain ⟨adz1, ez1, hxz1⟩ := Kd.at_int HR1_4.out x27_1 pz1 qz1
        cases ez1
        replace hxz1 := kc_ HB.out hxz1
        replace pz1 := eq_true pz1
        replace qz1 := eq_true qz1
        go_wp2_with (first | ((with_reducible refine gate_callee (f := 44) rfl ?_); refine goesL_ (some 35) rfl rfl Try.func44 (by kernel_rfl) rfl #[.slice A0 l0.length c0, .int .i64 (rd l1_4 x27_1)] rfl qm_ ?_; (with_reducible refine (rec_Read.calls _ _ l0 (rd l1_4 x27_1) tv1 tv2 tv3 tv4 tv5 _ ?side1 ?side2 Av2.out).mono ?_); (case side1 => repeat (first | exact (Kd.C_below HR0.out HB.out) | (with_reducible refine Kd.C_alloc ?_ _) | (with_reducible refine Kd.C_drewN ?_ _) | (with_reducible refine Kd.C_drew ?_))); (case side2 => exact HC0.out); rintro e wz1 ⟨rfl, hb⟩; refine ⟨_, rfl, ?_⟩; have n0_ := Aside0.mk (blk_below (g := gb139) (o := .cells #[.int .i64 a1_0, .int .i64 a1_1, .int .i64 a1_2, .int .i64 a1_3, .slice (some adz1) l1_4.length c1_4] 24 (0, 0)) (qb_ BK139.out) hb); have n1_ := Aside0.mk (below_step (qg1_ GE139.out) hb); clear BK139; clear HB; have BK139 := n0_; have HB := n1_; clear n0_ n1_; (try clear hb); (try clear hb2); (try clear hk); (try clear hi)) | ((with_reducible refine gate_dst (N := 13) rfl ?_); refine box_event ?hg (N := 13) ?hd (cs := #[.int .i64 0, .string (⟨#[]⟩ : ByteArray), .string (⟨#[]⟩ : ByteArray), .int .i64 0]) (t := 62) ?hr ?_; (case hd => rfl); (case hg => rfl); (case hr => first | (go_simp; done) | (go_simp; rfl)); intro gbz1 hg wz2 hbox hb; have n0_ := Aside0.mk (blk_below (g := gb139) (o := .cells #[.int .i64 a1_0, .int .i64 a1_1, .int .i64 a1_2, .int .i64 a1_3, .slice (some adz1) l1_4.length c1_4] 24 (0, 0)) (qb_ BK139.out) hb); have n1_ := Aside0.mk (below_step (qg1_ GE139.out) hb); have n2_ := Aside0.mk (hbox); have n3_ := Aside0.mk ((by rw [hg]; exact (below_size (qg1_ GE139.out)) : w.heap.size ≤ gbz1)); have n4_ := Aside0.mk ((by rw [hg]; exact (below_size (qg1_ GE139.out)) : w.heap.size ≤ gbz1)); have n5_ := Aside0.mk ((by rw [hg]; exact Nat.ne_of_lt (blk_lt (g := gb139) (o := .cells #[.int .i64 a1_0, .int .i64 a1_1, .int .i64 a1_2, .int .i64 a1_3, .slice (some adz1) l1_4.length c1_4] 24 (0, 0)) (qb_ BK139.out)) : gb139 ≠ gbz1)); have n6_ := Aside0.mk ((by rw [hg]; exact Nat.ne_of_gt (blk_lt (g := gb139) (o := .cells #[.int .i64 a1_0, .int .i64 a1_1, .int .i64 a1_2, .int .i64 a1_3, .slice (some adz1) l1_4.length c1_4] 24 (0, 0)) (qb_ BK139.out)) : gbz1 ≠ gb139)); clear BK139; clear HB; have BK139 := n0_; have HB := n1_; have BKz1 := n2_; have GWz1 := n3_; have GEz1 := n4_; have NBz1 := n5_; have NBz2 := n6_; clear n0_ n1_ n2_ n3_ n4_ n5_ n6_; clear hb hbox hg; have hnbz1 := NBz2.out; have hncz1 := NBz1.out; have hczz1 : wz2.cell? ⟨gbz1, 0, none⟩ = some (.int .i64 0) := (blk_cell BKz1.out 0).trans rfl; have hczz2 : wz2.cell? ⟨gbz1, 1, none⟩ = some (.string (⟨#[]⟩ : ByteArray)) := (blk_cell BKz1.out 1).trans rfl; have hczz3 : wz2.cell? ⟨gbz1, 2, none⟩ = some (.string (⟨#[]⟩ : ByteArray)) := (blk_cell BKz1.out 2).trans rfl; have hczz4 : wz2.cell? ⟨gbz1, 3, none⟩ = some (.int .i64 0) := (blk_cell BKz1.out 3).trans rfl; have hfzz1 := blk_frozen BKz1.out 0; have hfzz2 := blk_frozen BKz1.out 1; have hfzz3 := blk_frozen BKz1.out 2; have hfzz4 := blk_frozen BKz1.out 3) | ((with_reducible refine gate_callee (f := 22) rfl ?_); refine goesL_ (some 42) rfl rfl Try.func22 (by kernel_rfl) rfl #[.slice A0 l0.length c0, .int .i64 tv4] rfl qm_ ?_; (with_reducible refine (arena_Low.calls _ _ l0 tv4 tv6 tv7 _ ?side1 ?side2 Av4.out).mono ?_); (case side1 => exact Kd.C_below HR0.out (qg2_ GE139.out GEz1.out)); (case side2 => exact HC0.out); rintro e wz3 ⟨rfl, hb⟩; refine ⟨_, rfl, ?_⟩; have n0_ := Aside0.mk (blk_below (g := gb139) (o := .cells #[.int .i64 a1_0, .int .i64 a1_1, .int .i64 a1_2, .int .i64 a1_3, .slice (some adz1) l1_4.length c1_4] 24 (0, 0)) (by (with_reducible repeat (first | refine blk_drewN ?_ _ | refine blk_drew ?_ | refine blk_alloc ?_ _)); refine blk_far ?_ NBz1.out _; (with_reducible repeat (first | refine blk_drewN ?_ _ | refine blk_drew ?_ | refine blk_alloc ?_ _)); refine blk_far ?_ NBz1.out _; (with_reducible repeat (first | refine blk_drewN ?_ _ | refine blk_drew ?_ | refine blk_alloc ?_ _)); refine blk_far ?_ NBz1.out _; (with_reducible repeat (first | refine blk_drewN ?_ _ | refine blk_drew ?_ | refine blk_alloc ?_ _)); refine blk_far ?_ NBz1.out _; (with_reducible repeat (first | refine blk_drewN ?_ _ | refine blk_drew ?_ | refine blk_alloc ?_ _)); exact BK139.out) hb); have n1_ := Aside0.mk (blk_below (g := gbz1) (o := .cells #[.int .i64 tv1, .string tv2, .string tv3, .int .i64 tv4] 62 (0, 0)) (by (with_reducible repeat (first | refine blk_drewN ?_ _ | refine blk_drew ?_ | refine blk_alloc ?_ _)); refine blk_put (cs := #[.int .i64 tv1, .string tv2, .string tv3, .int .i64 0]) ?_ 3 _ rfl; (with_reducible repeat (first | refine blk_drewN ?_ _ | refine blk_drew ?_ | refine blk_alloc ?_ _)); refine blk_put (cs := #[.int .i64 tv1, .string tv2, .string (⟨#[]⟩ : ByteArray), .int .i64 0]) ?_ 2 _ rfl; (with_reducible repeat (first | refine blk_drewN ?_ _ | refine blk_drew ?_ | refine blk_alloc ?_ _)); refine blk_put (cs := #[.int .i64 tv1, .string (⟨#[]⟩ : ByteArray), .string (⟨#[]⟩ : ByteArray), .int .i64 0]) ?_ 1 _ rfl; (with_reducible repeat (first | refine blk_drewN ?_ _ | refine blk_drew ?_ | refine blk_alloc ?_ _)); refine blk_put (cs := #[.int .i64 0, .string (⟨#[]⟩ : ByteArray), .string (⟨#[]⟩ : ByteArray), .int .i64 0]) ?_ 0 _ rfl; (with_reducible repeat (first | refine blk_drewN ?_ _ | refine blk_drew ?_ | refine blk_alloc ?_ _)); exact BKz1.out) hb); have n2_ := Aside0.mk (below_step (qg2_ GE139.out GEz1.out) hb); clear BK139; clear BKz1; clear HB; have BK139 := n0_; have BKz1 := n1_; have HB := n2_; clear n0_ n1_ n2_; (try clear hb); (try clear hb2); (try clear hk); (try clear hi); have hczz5 : wz3.cell? ⟨gbz1, 0, none⟩ = some (.int .i64 tv1) := (blk_cell BKz1.out 0).trans rfl; have hczz6 : wz3.cell? ⟨gbz1, 1, none⟩ = some (.string tv2) := (blk_cell BKz1.out 1).trans rfl; have hczz7 : wz3.cell? ⟨gbz1, 2, none⟩ = some (.string tv3) := (blk_cell BKz1.out 2).trans rfl; have hczz8 : wz3.cell? ⟨gbz1, 3, none⟩ = some (.int .i64 tv4) := (blk_cell BKz1.out 3).trans rfl; have hfzz5 := blk_frozen BKz1.out 0; have hfzz6 := blk_frozen BKz1.out 1; have hfzz7 := blk_frozen BKz1.out 2; have hfzz8 := blk_frozen BKz1.out 3; have hczz9 : wz3.cell? ⟨gb139, 0, none⟩ = some (.int .i64 a1_0) := (blk_cell BK139.out 0).trans rfl; have hczz10 : wz3.cell? ⟨gb139, 1, none⟩ = some (.int .i64 a1_1) := (blk_cell BK139.out 1).trans rfl; have hczz11 : wz3.cell? ⟨gb139, 2, none⟩ = some (.int .i64 a1_2) := (blk_cell BK139.out 2).trans rfl; have hczz12 : wz3.cell? ⟨gb139, 3, none⟩ = some (.int .i64 a1_3) := (blk_cell BK139.out 3).trans rfl; have hczz13 : wz3.cell? ⟨gb139, 4, none⟩ = some (.slice (some adz1) l1_4.length c1_4) := (blk_cell BK139.out 4).trans rfl; have hfzz9 := blk_frozen BK139.out 0; have hfzz10 := blk_frozen BK139.out 1; have hfzz11 := blk_frozen BK139.out 2; have hfzz12 := blk_frozen BK139.out 3; have hfzz13 := blk_frozen BK139.out 4) | (go_at_call 55; (with_reducible refine (slices_Contains_int_int.calls _ _ l3 tv4 true _ ?side1 ?side2 Av6.out).mono ?_); (case side1 => repeat (first | exact (Kd.C_below HR3.out HB.out) | (with_reducible refine Kd.C_alloc ?_ _) | (with_reducible refine Kd.C_drewN ?_ _) | (with_reducible refine Kd.C_drew ?_))); (case side2 => exact HC3.out); rintro e wz4 ⟨rfl, hb⟩; have n0_ := Aside0.mk (blk_below (g := gb139) (o := .cells #[.int .i64 a1_0, .int .i64 a1_1, .int .i64 a1_2, .int .i64 a1_3, .slice (some adz1) l1_4.length c1_4] 24 (0, 0)) (qb_ BK139.out) hb); have n1_ := Aside0.mk (blk_below (g := gbz1) (o := .cells #[.int .i64 tv1, .string tv2, .string tv3, .int .i64 tv4] 62 (0, 0)) (qb_ BKz1.out) hb); have n2_ := Aside0.mk (below_step (qg2_ GE139.out GEz1.out) hb); clear BK139; clear BKz1; clear HB; have BK139 := n0_; have BKz1 := n1_; have HB := n2_; clear n0_ n1_ n2_; (try clear hb); (try clear hb2); (try clear hk); (try clear hi); have hczz14 : wz4.cell? ⟨gbz1, 0, none⟩ = some (.int .i64 tv1) := (blk_cell BKz1.out 0).trans rfl; have hczz15 : wz4.cell? ⟨gbz1, 1, none⟩ = some (.string tv2) := (blk_cell BKz1.out 1).trans rfl; have hczz16 : wz4.cell? ⟨gbz1, 2, none⟩ = some (.string tv3) := (blk_cell BKz1.out 2).trans rfl; have hczz17 : wz4.cell? ⟨gbz1, 3, none⟩ = some (.int .i64 tv4) := (blk_cell BKz1.out 3).trans rfl; have hfzz14 := blk_frozen BKz1.out 0; have hfzz15 := blk_frozen BKz1.out 1; have hfzz16 := blk_frozen BKz1.out 2; have hfzz17 := blk_frozen BKz1.out 3))
        go_roundg k1
        case measure => have := HK1.out; omega
        case rel => exact ⟨(tv2), (wrap64 (x27_1 + 1)), (by first | rfl | (simp; done) | (simp [*]; done)), (by first | rfl | (simp; done) | (simp [*]; done)), H', ⟨by have := HK1.out; omega⟩, ⟨by (with_reducible repeat (first | refine blk_drewN ?_ _ | refine blk_drew ?_ | refine blk_alloc ?_ _)); exact BK139.out⟩, ⟨by repeat (first | (with_reducible first | exact HB.out | apply below_alloc | apply pw_below_drewN | apply below_drew1 | refine below_set ?_ GE139.out | refine below_set ?_ GEz1.out) | exact HB.out)⟩⟩)
     | (clear hq1
        obtain rfl := Option.some.inj H
        have pz1 : 0 ≤ (x27_1 : Int) := of_decide_eq_true (by first | (with_reducible assumption) | assumption)
        have qz1 : x27_1 < (l1_4.length : Int) := of_decide_eq_true (by first | (with_reducible assumption) | assumption)
        obtain ⟨adz1, ez1, hxz1⟩ := Kd.at_int HR1_4.out x27_1 pz1 qz1
        cases ez1
        replace hxz1 := kc_ HB.out hxz1
        replace pz1 := eq_true pz1
        replace qz1 := eq_true qz1
        go_wp2_with (first | ((with_reducible refine gate_callee (f := 44) rfl ?_); refine goesL_ (some 35) rfl rfl Try.func44 (by kernel_rfl) rfl #[.slice A0 l0.length c0, .int .i64 (rd l1_4 x27_1)] rfl qm_ ?_; (with_reducible refine (rec_Read.calls _ _ l0 (rd l1_4 x27_1) tv1 tv2 tv3 tv4 tv5 _ ?side1 ?side2 Av2.out).mono ?_); (case side1 => repeat (first | exact (Kd.C_below HR0.out HB.out) | (with_reducible refine Kd.C_alloc ?_ _) | (with_reducible refine Kd.C_drewN ?_ _) | (with_reducible refine Kd.C_drew ?_))); (case side2 => exact HC0.out); rintro e wz1 ⟨rfl, hb⟩; refine ⟨_, rfl, ?_⟩; have n0_ := Aside0.mk (blk_below (g := gb139) (o := .cells #[.int .i64 a1_0, .int .i64 a1_1, .int .i64 a1_2, .int .i64 a1_3, .slice (some adz1) l1_4.length c1_4] 24 (0, 0)) (qb_ BK139.out) hb); have n1_ := Aside0.mk (below_step (qg1_ GE139.out) hb); clear BK139; clear HB; have BK139 := n0_; have HB := n1_; clear n0_ n1_; (try clear hb); (try clear hb2); (try clear hk); (try clear hi)) | ((with_reducible refine gate_dst (N := 13) rfl ?_); refine box_event ?hg (N := 13) ?hd (cs := #[.int .i64 0, .string (⟨#[]⟩ : ByteArray), .string (⟨#[]⟩ : ByteArray), .int .i64 0]) (t := 62) ?hr ?_; (case hd => rfl); (case hg => rfl); (case hr => first | (go_simp; done) | (go_simp; rfl)); intro gbz1 hg wz2 hbox hb; have n0_ := Aside0.mk (blk_below (g := gb139) (o := .cells #[.int .i64 a1_0, .int .i64 a1_1, .int .i64 a1_2, .int .i64 a1_3, .slice (some adz1) l1_4.length c1_4] 24 (0, 0)) (qb_ BK139.out) hb); have n1_ := Aside0.mk (below_step (qg1_ GE139.out) hb); have n2_ := Aside0.mk (hbox); have n3_ := Aside0.mk ((by rw [hg]; exact (below_size (qg1_ GE139.out)) : w.heap.size ≤ gbz1)); have n4_ := Aside0.mk ((by rw [hg]; exact (below_size (qg1_ GE139.out)) : w.heap.size ≤ gbz1)); have n5_ := Aside0.mk ((by rw [hg]; exact Nat.ne_of_lt (blk_lt (g := gb139) (o := .cells #[.int .i64 a1_0, .int .i64 a1_1, .int .i64 a1_2, .int .i64 a1_3, .slice (some adz1) l1_4.length c1_4] 24 (0, 0)) (qb_ BK139.out)) : gb139 ≠ gbz1)); have n6_ := Aside0.mk ((by rw [hg]; exact Nat.ne_of_gt (blk_lt (g := gb139) (o := .cells #[.int .i64 a1_0, .int .i64 a1_1, .int .i64 a1_2, .int .i64 a1_3, .slice (some adz1) l1_4.length c1_4] 24 (0, 0)) (qb_ BK139.out)) : gbz1 ≠ gb139)); clear BK139; clear HB; have BK139 := n0_; have HB := n1_; have BKz1 := n2_; have GWz1 := n3_; have GEz1 := n4_; have NBz1 := n5_; have NBz2 := n6_; clear n0_ n1_ n2_ n3_ n4_ n5_ n6_; clear hb hbox hg; have hnbz1 := NBz2.out; have hncz1 := NBz1.out; have hczz1 : wz2.cell? ⟨gbz1, 0, none⟩ = some (.int .i64 0) := (blk_cell BKz1.out 0).trans rfl; have hczz2 : wz2.cell? ⟨gbz1, 1, none⟩ = some (.string (⟨#[]⟩ : ByteArray)) := (blk_cell BKz1.out 1).trans rfl; have hczz3 : wz2.cell? ⟨gbz1, 2, none⟩ = some (.string (⟨#[]⟩ : ByteArray)) := (blk_cell BKz1.out 2).trans rfl; have hczz4 : wz2.cell? ⟨gbz1, 3, none⟩ = some (.int .i64 0) := (blk_cell BKz1.out 3).trans rfl; have hfzz1 := blk_frozen BKz1.out 0; have hfzz2 := blk_frozen BKz1.out 1; have hfzz3 := blk_frozen BKz1.out 2; have hfzz4 := blk_frozen BKz1.out 3) | ((with_reducible refine gate_callee (f := 22) rfl ?_); refine goesL_ (some 42) rfl rfl Try.func22 (by kernel_rfl) rfl #[.slice A0 l0.length c0, .int .i64 tv4] rfl qm_ ?_; (with_reducible refine (arena_Low.calls _ _ l0 tv4 tv6 tv7 _ ?side1 ?side2 Av4.out).mono ?_); (case side1 => exact Kd.C_below HR0.out (qg2_ GE139.out GEz1.out)); (case side2 => exact HC0.out); rintro e wz3 ⟨rfl, hb⟩; refine ⟨_, rfl, ?_⟩; have n0_ := Aside0.mk (blk_below (g := gb139) (o := .cells #[.int .i64 a1_0, .int .i64 a1_1, .int .i64 a1_2, .int .i64 a1_3, .slice (some adz1) l1_4.length c1_4] 24 (0, 0)) (by (with_reducible repeat (first | refine blk_drewN ?_ _ | refine blk_drew ?_ | refine blk_alloc ?_ _)); refine blk_far ?_ NBz1.out _; (with_reducible repeat (first | refine blk_drewN ?_ _ | refine blk_drew ?_ | refine blk_alloc ?_ _)); refine blk_far ?_ NBz1.out _; (with_reducible repeat (first | refine blk_drewN ?_ _ | refine blk_drew ?_ | refine blk_alloc ?_ _)); refine blk_far ?_ NBz1.out _; (with_reducible repeat (first | refine blk_drewN ?_ _ | refine blk_drew ?_ | refine blk_alloc ?_ _)); refine blk_far ?_ NBz1.out _; (with_reducible repeat (first | refine blk_drewN ?_ _ | refine blk_drew ?_ | refine blk_alloc ?_ _)); exact BK139.out) hb); have n1_ := Aside0.mk (blk_below (g := gbz1) (o := .cells #[.int .i64 tv1, .string tv2, .string tv3, .int .i64 tv4] 62 (0, 0)) (by (with_reducible repeat (first | refine blk_drewN ?_ _ | refine blk_drew ?_ | refine blk_alloc ?_ _)); refine blk_put (cs := #[.int .i64 tv1, .string tv2, .string tv3, .int .i64 0]) ?_ 3 _ rfl; (with_reducible repeat (first | refine blk_drewN ?_ _ | refine blk_drew ?_ | refine blk_alloc ?_ _)); refine blk_put (cs := #[.int .i64 tv1, .string tv2, .string (⟨#[]⟩ : ByteArray), .int .i64 0]) ?_ 2 _ rfl; (with_reducible repeat (first | refine blk_drewN ?_ _ | refine blk_drew ?_ | refine blk_alloc ?_ _)); refine blk_put (cs := #[.int .i64 tv1, .string (⟨#[]⟩ : ByteArray), .string (⟨#[]⟩ : ByteArray), .int .i64 0]) ?_ 1 _ rfl; (with_reducible repeat (first | refine blk_drewN ?_ _ | refine blk_drew ?_ | refine blk_alloc ?_ _)); refine blk_put (cs := #[.int .i64 0, .string (⟨#[]⟩ : ByteArray), .string (⟨#[]⟩ : ByteArray), .int .i64 0]) ?_ 0 _ rfl; (with_reducible repeat (first | refine blk_drewN ?_ _ | refine blk_drew ?_ | refine blk_alloc ?_ _)); exact BKz1.out) hb); have n2_ := Aside0.mk (below_step (qg2_ GE139.out GEz1.out) hb); clear BK139; clear BKz1; clear HB; have BK139 := n0_; have BKz1 := n1_; have HB := n2_; clear n0_ n1_ n2_; (try clear hb); (try clear hb2); (try clear hk); (try clear hi); have hczz5 : wz3.cell? ⟨gbz1, 0, none⟩ = some (.int .i64 tv1) := (blk_cell BKz1.out 0).trans rfl; have hczz6 : wz3.cell? ⟨gbz1, 1, none⟩ = some (.string tv2) := (blk_cell BKz1.out 1).trans rfl; have hczz7 : wz3.cell? ⟨gbz1, 2, none⟩ = some (.string tv3) := (blk_cell BKz1.out 2).trans rfl; have hczz8 : wz3.cell? ⟨gbz1, 3, none⟩ = some (.int .i64 tv4) := (blk_cell BKz1.out 3).trans rfl; have hfzz5 := blk_frozen BKz1.out 0; have hfzz6 := blk_frozen BKz1.out 1; have hfzz7 := blk_frozen BKz1.out 2; have hfzz8 := blk_frozen BKz1.out 3; have hczz9 : wz3.cell? ⟨gb139, 0, none⟩ = some (.int .i64 a1_0) := (blk_cell BK139.out 0).trans rfl; have hczz10 : wz3.cell? ⟨gb139, 1, none⟩ = some (.int .i64 a1_1) := (blk_cell BK139.out 1).trans rfl; have hczz11 : wz3.cell? ⟨gb139, 2, none⟩ = some (.int .i64 a1_2) := (blk_cell BK139.out 2).trans rfl; have hczz12 : wz3.cell? ⟨gb139, 3, none⟩ = some (.int .i64 a1_3) := (blk_cell BK139.out 3).trans rfl; have hczz13 : wz3.cell? ⟨gb139, 4, none⟩ = some (.slice (some adz1) l1_4.length c1_4) := (blk_cell BK139.out 4).trans rfl; have hfzz9 := blk_frozen BK139.out 0; have hfzz10 := blk_frozen BK139.out 1; have hfzz11 := blk_frozen BK139.out 2; have hfzz12 := blk_frozen BK139.out 3; have hfzz13 := blk_frozen BK139.out 4) | (go_at_call 55; (with_reducible refine (slices_Contains_int_int.calls _ _ l3 tv4 true _ ?side1 ?side2 Av6.out).mono ?_); (case side1 => repeat (first | exact (Kd.C_below HR3.out HB.out) | (with_reducible refine Kd.C_alloc ?_ _) | (with_reducible refine Kd.C_drewN ?_ _) | (with_reducible refine Kd.C_drew ?_))); (case side2 => exact HC3.out); rintro e wz4 ⟨rfl, hb⟩; have n0_ := Aside0.mk (blk_below (g := gb139) (o := .cells #[.int .i64 a1_0, .int .i64 a1_1, .int .i64 a1_2, .int .i64 a1_3, .slice (some adz1) l1_4.length c1_4] 24 (0, 0)) (qb_ BK139.out) hb); have n1_ := Aside0.mk (blk_below (g := gbz1) (o := .cells #[.int .i64 tv1, .string tv2, .string tv3, .int .i64 tv4] 62 (0, 0)) (qb_ BKz1.out) hb); have n2_ := Aside0.mk (below_step (qg2_ GE139.out GEz1.out) hb); clear BK139; clear BKz1; clear HB; have BK139 := n0_; have BKz1 := n1_; have HB := n2_; clear n0_ n1_ n2_; (try clear hb); (try clear hb2); (try clear hk); (try clear hi); have hczz14 : wz4.cell? ⟨gbz1, 0, none⟩ = some (.int .i64 tv1) := (blk_cell BKz1.out 0).trans rfl; have hczz15 : wz4.cell? ⟨gbz1, 1, none⟩ = some (.string tv2) := (blk_cell BKz1.out 1).trans rfl; have hczz16 : wz4.cell? ⟨gbz1, 2, none⟩ = some (.string tv3) := (blk_cell BKz1.out 2).trans rfl; have hczz17 : wz4.cell? ⟨gbz1, 3, none⟩ = some (.int .i64 tv4) := (blk_cell BKz1.out 3).trans rfl; have hfzz14 := blk_frozen BKz1.out 0; have hfzz15 := blk_frozen BKz1.out 1; have hfzz16 := blk_frozen BKz1.out 2; have hfzz17 := blk_frozen BKz1.out 3))
        go_ret
        exact ⟨qe_, by repeat (first | (with_reducible first | exact HB.out | apply below_alloc | apply pw_below_drewN | apply below_drew1 | refine below_set ?_ GE139.out | refine below_set ?_ GEz1.out) | exact HB.out)⟩)
     | (clear hq2
        obtain rfl := Option.some.inj H
        have pz1 : 0 ≤ (x27_1 : Int) := of_decide_eq_true (by first | (with_reducible assumption) | assumption)
        have qz1 : x27_1 < (l1_4.length : Int) := of_decide_eq_true (by first | (with_reducible assumption) | assumption)
        obtain ⟨adz1, ez1, hxz1⟩ := Kd.at_int HR1_4.out x27_1 pz1 qz1
        cases ez1
        replace hxz1 := kc_ HB.out hxz1
        replace pz1 := eq_true pz1
        replace qz1 := eq_true qz1
        go_wp2_with (first | ((with_reducible refine gate_callee (f := 44) rfl ?_); refine goesL_ (some 35) rfl rfl Try.func44 (by kernel_rfl) rfl #[.slice A0 l0.length c0, .int .i64 (rd l1_4 x27_1)] rfl qm_ ?_; (with_reducible refine (rec_Read.calls _ _ l0 (rd l1_4 x27_1) tv1 tv2 tv3 tv4 tv5 _ ?side1 ?side2 Av2.out).mono ?_); (case side1 => repeat (first | exact (Kd.C_below HR0.out HB.out) | (with_reducible refine Kd.C_alloc ?_ _) | (with_reducible refine Kd.C_drewN ?_ _) | (with_reducible refine Kd.C_drew ?_))); (case side2 => exact HC0.out); rintro e wz1 ⟨rfl, hb⟩; refine ⟨_, rfl, ?_⟩; have n0_ := Aside0.mk (blk_below (g := gb139) (o := .cells #[.int .i64 a1_0, .int .i64 a1_1, .int .i64 a1_2, .int .i64 a1_3, .slice (some adz1) l1_4.length c1_4] 24 (0, 0)) (qb_ BK139.out) hb); have n1_ := Aside0.mk (below_step (qg1_ GE139.out) hb); clear BK139; clear HB; have BK139 := n0_; have HB := n1_; clear n0_ n1_; (try clear hb); (try clear hb2); (try clear hk); (try clear hi)) | ((with_reducible refine gate_dst (N := 13) rfl ?_); refine box_event ?hg (N := 13) ?hd (cs := #[.int .i64 0, .string (⟨#[]⟩ : ByteArray), .string (⟨#[]⟩ : ByteArray), .int .i64 0]) (t := 62) ?hr ?_; (case hd => rfl); (case hg => rfl); (case hr => first | (go_simp; done) | (go_simp; rfl)); intro gbz1 hg wz2 hbox hb; have n0_ := Aside0.mk (blk_below (g := gb139) (o := .cells #[.int .i64 a1_0, .int .i64 a1_1, .int .i64 a1_2, .int .i64 a1_3, .slice (some adz1) l1_4.length c1_4] 24 (0, 0)) (qb_ BK139.out) hb); have n1_ := Aside0.mk (below_step (qg1_ GE139.out) hb); have n2_ := Aside0.mk (hbox); have n3_ := Aside0.mk ((by rw [hg]; exact (below_size (qg1_ GE139.out)) : w.heap.size ≤ gbz1)); have n4_ := Aside0.mk ((by rw [hg]; exact (below_size (qg1_ GE139.out)) : w.heap.size ≤ gbz1)); have n5_ := Aside0.mk ((by rw [hg]; exact Nat.ne_of_lt (blk_lt (g := gb139) (o := .cells #[.int .i64 a1_0, .int .i64 a1_1, .int .i64 a1_2, .int .i64 a1_3, .slice (some adz1) l1_4.length c1_4] 24 (0, 0)) (qb_ BK139.out)) : gb139 ≠ gbz1)); have n6_ := Aside0.mk ((by rw [hg]; exact Nat.ne_of_gt (blk_lt (g := gb139) (o := .cells #[.int .i64 a1_0, .int .i64 a1_1, .int .i64 a1_2, .int .i64 a1_3, .slice (some adz1) l1_4.length c1_4] 24 (0, 0)) (qb_ BK139.out)) : gbz1 ≠ gb139)); clear BK139; clear HB; have BK139 := n0_; have HB := n1_; have BKz1 := n2_; have GWz1 := n3_; have GEz1 := n4_; have NBz1 := n5_; have NBz2 := n6_; clear n0_ n1_ n2_ n3_ n4_ n5_ n6_; clear hb hbox hg; have hnbz1 := NBz2.out; have hncz1 := NBz1.out; have hczz1 : wz2.cell? ⟨gbz1, 0, none⟩ = some (.int .i64 0) := (blk_cell BKz1.out 0).trans rfl; have hczz2 : wz2.cell? ⟨gbz1, 1, none⟩ = some (.string (⟨#[]⟩ : ByteArray)) := (blk_cell BKz1.out 1).trans rfl; have hczz3 : wz2.cell? ⟨gbz1, 2, none⟩ = some (.string (⟨#[]⟩ : ByteArray)) := (blk_cell BKz1.out 2).trans rfl; have hczz4 : wz2.cell? ⟨gbz1, 3, none⟩ = some (.int .i64 0) := (blk_cell BKz1.out 3).trans rfl; have hfzz1 := blk_frozen BKz1.out 0; have hfzz2 := blk_frozen BKz1.out 1; have hfzz3 := blk_frozen BKz1.out 2; have hfzz4 := blk_frozen BKz1.out 3) | ((with_reducible refine gate_callee (f := 22) rfl ?_); refine goesL_ (some 42) rfl rfl Try.func22 (by kernel_rfl) rfl #[.slice A0 l0.length c0, .int .i64 tv4] rfl qm_ ?_; (with_reducible refine (arena_Low.calls _ _ l0 tv4 tv6 tv7 _ ?side1 ?side2 Av4.out).mono ?_); (case side1 => exact Kd.C_below HR0.out (qg2_ GE139.out GEz1.out)); (case side2 => exact HC0.out); rintro e wz3 ⟨rfl, hb⟩; refine ⟨_, rfl, ?_⟩; have n0_ := Aside0.mk (blk_below (g := gb139) (o := .cells #[.int .i64 a1_0, .int .i64 a1_1, .int .i64 a1_2, .int .i64 a1_3, .slice (some adz1) l1_4.length c1_4] 24 (0, 0)) (by (with_reducible repeat (first | refine blk_drewN ?_ _ | refine blk_drew ?_ | refine blk_alloc ?_ _)); refine blk_far ?_ NBz1.out _; (with_reducible repeat (first | refine blk_drewN ?_ _ | refine blk_drew ?_ | refine blk_alloc ?_ _)); refine blk_far ?_ NBz1.out _; (with_reducible repeat (first | refine blk_drewN ?_ _ | refine blk_drew ?_ | refine blk_alloc ?_ _)); refine blk_far ?_ NBz1.out _; (with_reducible repeat (first | refine blk_drewN ?_ _ | refine blk_drew ?_ | refine blk_alloc ?_ _)); refine blk_far ?_ NBz1.out _; (with_reducible repeat (first | refine blk_drewN ?_ _ | refine blk_drew ?_ | refine blk_alloc ?_ _)); exact BK139.out) hb); have n1_ := Aside0.mk (blk_below (g := gbz1) (o := .cells #[.int .i64 tv1, .string tv2, .string tv3, .int .i64 tv4] 62 (0, 0)) (by (with_reducible repeat (first | refine blk_drewN ?_ _ | refine blk_drew ?_ | refine blk_alloc ?_ _)); refine blk_put (cs := #[.int .i64 tv1, .string tv2, .string tv3, .int .i64 0]) ?_ 3 _ rfl; (with_reducible repeat (first | refine blk_drewN ?_ _ | refine blk_drew ?_ | refine blk_alloc ?_ _)); refine blk_put (cs := #[.int .i64 tv1, .string tv2, .string (⟨#[]⟩ : ByteArray), .int .i64 0]) ?_ 2 _ rfl; (with_reducible repeat (first | refine blk_drewN ?_ _ | refine blk_drew ?_ | refine blk_alloc ?_ _)); refine blk_put (cs := #[.int .i64 tv1, .string (⟨#[]⟩ : ByteArray), .string (⟨#[]⟩ : ByteArray), .int .i64 0]) ?_ 1 _ rfl; (with_reducible repeat (first | refine blk_drewN ?_ _ | refine blk_drew ?_ | refine blk_alloc ?_ _)); refine blk_put (cs := #[.int .i64 0, .string (⟨#[]⟩ : ByteArray), .string (⟨#[]⟩ : ByteArray), .int .i64 0]) ?_ 0 _ rfl; (with_reducible repeat (first | refine blk_drewN ?_ _ | refine blk_drew ?_ | refine blk_alloc ?_ _)); exact BKz1.out) hb); have n2_ := Aside0.mk (below_step (qg2_ GE139.out GEz1.out) hb); clear BK139; clear BKz1; clear HB; have BK139 := n0_; have BKz1 := n1_; have HB := n2_; clear n0_ n1_ n2_; (try clear hb); (try clear hb2); (try clear hk); (try clear hi); have hczz5 : wz3.cell? ⟨gbz1, 0, none⟩ = some (.int .i64 tv1) := (blk_cell BKz1.out 0).trans rfl; have hczz6 : wz3.cell? ⟨gbz1, 1, none⟩ = some (.string tv2) := (blk_cell BKz1.out 1).trans rfl; have hczz7 : wz3.cell? ⟨gbz1, 2, none⟩ = some (.string tv3) := (blk_cell BKz1.out 2).trans rfl; have hczz8 : wz3.cell? ⟨gbz1, 3, none⟩ = some (.int .i64 tv4) := (blk_cell BKz1.out 3).trans rfl; have hfzz5 := blk_frozen BKz1.out 0; have hfzz6 := blk_frozen BKz1.out 1; have hfzz7 := blk_frozen BKz1.out 2; have hfzz8 := blk_frozen BKz1.out 3; have hczz9 : wz3.cell? ⟨gb139, 0, none⟩ = some (.int .i64 a1_0) := (blk_cell BK139.out 0).trans rfl; have hczz10 : wz3.cell? ⟨gb139, 1, none⟩ = some (.int .i64 a1_1) := (blk_cell BK139.out 1).trans rfl; have hczz11 : wz3.cell? ⟨gb139, 2, none⟩ = some (.int .i64 a1_2) := (blk_cell BK139.out 2).trans rfl; have hczz12 : wz3.cell? ⟨gb139, 3, none⟩ = some (.int .i64 a1_3) := (blk_cell BK139.out 3).trans rfl; have hczz13 : wz3.cell? ⟨gb139, 4, none⟩ = some (.slice (some adz1) l1_4.length c1_4) := (blk_cell BK139.out 4).trans rfl; have hfzz9 := blk_frozen BK139.out 0; have hfzz10 := blk_frozen BK139.out 1; have hfzz11 := blk_frozen BK139.out 2; have hfzz12 := blk_frozen BK139.out 3; have hfzz13 := blk_frozen BK139.out 4) | (go_at_call 55; (with_reducible refine (slices_Contains_int_int.calls _ _ l3 tv4 true _ ?side1 ?side2 Av6.out).mono ?_); (case side1 => repeat (first | exact (Kd.C_below HR3.out HB.out) | (with_reducible refine Kd.C_alloc ?_ _) | (with_reducible refine Kd.C_drewN ?_ _) | (with_reducible refine Kd.C_drew ?_))); (case side2 => exact HC3.out); rintro e wz4 ⟨rfl, hb⟩; have n0_ := Aside0.mk (blk_below (g := gb139) (o := .cells #[.int .i64 a1_0, .int .i64 a1_1, .int .i64 a1_2, .int .i64 a1_3, .slice (some adz1) l1_4.length c1_4] 24 (0, 0)) (qb_ BK139.out) hb); have n1_ := Aside0.mk (blk_below (g := gbz1) (o := .cells #[.int .i64 tv1, .string tv2, .string tv3, .int .i64 tv4] 62 (0, 0)) (qb_ BKz1.out) hb); have n2_ := Aside0.mk (below_step (qg2_ GE139.out GEz1.out) hb); clear BK139; clear BKz1; clear HB; have BK139 := n0_; have BKz1 := n1_; have HB := n2_; clear n0_ n1_ n2_; (try clear hb); (try clear hb2); (try clear hk); (try clear hi)))
        go_ret
        exact ⟨qe_, by repeat (first | (with_reducible first | exact HB.out | apply below_alloc | apply pw_below_drewN | apply below_drew1 | refine below_set ?_ GE139.out | refine below_set ?_ GEz1.out) | exact HB.out)⟩)
     | (clear hq3
        replace cv10 := Bool.eq_false_iff.mpr cv10
        subst cv10
        have Hz1 : (some false) = some r := by rw [if_neg (show ¬ (false = true) by decide)] at H; exact H
        clear H
        have H := Hz1
        clear Hz1
        obtain rfl := Option.some.inj H
        have pz1 : 0 ≤ (x27_1 : Int) := of_decide_eq_true (by first | (with_reducible assumption) | assumption)
        have qz1 : x27_1 < (l1_4.length : Int) := of_decide_eq_true (by first | (with_reducible assumption) | assumption)
        obtain ⟨adz1, ez1, hxz1⟩ := Kd.at_int HR1_4.out x27_1 pz1 qz1
        cases ez1
        replace hxz1 := kc_ HB.out hxz1
        replace pz1 := eq_true pz1
        replace qz1 := eq_true qz1
        go_wp2_with (first | ((with_reducible refine gate_callee (f := 44) rfl ?_); refine goesL_ (some 35) rfl rfl Try.func44 (by kernel_rfl) rfl #[.slice A0 l0.length c0, .int .i64 (rd l1_4 x27_1)] rfl qm_ ?_; (with_reducible refine (rec_Read.calls _ _ l0 (rd l1_4 x27_1) tv1 tv2 tv3 tv4 tv5 _ ?side1 ?side2 Av2.out).mono ?_); (case side1 => repeat (first | exact (Kd.C_below HR0.out HB.out) | (with_reducible refine Kd.C_alloc ?_ _) | (with_reducible refine Kd.C_drewN ?_ _) | (with_reducible refine Kd.C_drew ?_))); (case side2 => exact HC0.out); rintro e wz1 ⟨rfl, hb⟩; refine ⟨_, rfl, ?_⟩; have n0_ := Aside0.mk (blk_below (g := gb139) (o := .cells #[.int .i64 a1_0, .int .i64 a1_1, .int .i64 a1_2, .int .i64 a1_3, .slice (some adz1) l1_4.length c1_4] 24 (0, 0)) (qb_ BK139.out) hb); have n1_ := Aside0.mk (below_step (qg1_ GE139.out) hb); clear BK139; clear HB; have BK139 := n0_; have HB := n1_; clear n0_ n1_; (try clear hb); (try clear hb2); (try clear hk); (try clear hi)) | ((with_reducible refine gate_dst (N := 13) rfl ?_); refine box_event ?hg (N := 13) ?hd (cs := #[.int .i64 0, .string (⟨#[]⟩ : ByteArray), .string (⟨#[]⟩ : ByteArray), .int .i64 0]) (t := 62) ?hr ?_; (case hd => rfl); (case hg => rfl); (case hr => first | (go_simp; done) | (go_simp; rfl)); intro gbz1 hg wz2 hbox hb; have n0_ := Aside0.mk (blk_below (g := gb139) (o := .cells #[.int .i64 a1_0, .int .i64 a1_1, .int .i64 a1_2, .int .i64 a1_3, .slice (some adz1) l1_4.length c1_4] 24 (0, 0)) (qb_ BK139.out) hb); have n1_ := Aside0.mk (below_step (qg1_ GE139.out) hb); have n2_ := Aside0.mk (hbox); have n3_ := Aside0.mk ((by rw [hg]; exact (below_size (qg1_ GE139.out)) : w.heap.size ≤ gbz1)); have n4_ := Aside0.mk ((by rw [hg]; exact (below_size (qg1_ GE139.out)) : w.heap.size ≤ gbz1)); have n5_ := Aside0.mk ((by rw [hg]; exact Nat.ne_of_lt (blk_lt (g := gb139) (o := .cells #[.int .i64 a1_0, .int .i64 a1_1, .int .i64 a1_2, .int .i64 a1_3, .slice (some adz1) l1_4.length c1_4] 24 (0, 0)) (qb_ BK139.out)) : gb139 ≠ gbz1)); have n6_ := Aside0.mk ((by rw [hg]; exact Nat.ne_of_gt (blk_lt (g := gb139) (o := .cells #[.int .i64 a1_0, .int .i64 a1_1, .int .i64 a1_2, .int .i64 a1_3, .slice (some adz1) l1_4.length c1_4] 24 (0, 0)) (qb_ BK139.out)) : gbz1 ≠ gb139)); clear BK139; clear HB; have BK139 := n0_; have HB := n1_; have BKz1 := n2_; have GWz1 := n3_; have GEz1 := n4_; have NBz1 := n5_; have NBz2 := n6_; clear n0_ n1_ n2_ n3_ n4_ n5_ n6_; clear hb hbox hg; have hnbz1 := NBz2.out; have hncz1 := NBz1.out; have hczz1 : wz2.cell? ⟨gbz1, 0, none⟩ = some (.int .i64 0) := (blk_cell BKz1.out 0).trans rfl; have hczz2 : wz2.cell? ⟨gbz1, 1, none⟩ = some (.string (⟨#[]⟩ : ByteArray)) := (blk_cell BKz1.out 1).trans rfl; have hczz3 : wz2.cell? ⟨gbz1, 2, none⟩ = some (.string (⟨#[]⟩ : ByteArray)) := (blk_cell BKz1.out 2).trans rfl; have hczz4 : wz2.cell? ⟨gbz1, 3, none⟩ = some (.int .i64 0) := (blk_cell BKz1.out 3).trans rfl; have hfzz1 := blk_frozen BKz1.out 0; have hfzz2 := blk_frozen BKz1.out 1; have hfzz3 := blk_frozen BKz1.out 2; have hfzz4 := blk_frozen BKz1.out 3) | ((with_reducible refine gate_callee (f := 22) rfl ?_); refine goesL_ (some 42) rfl rfl Try.func22 (by kernel_rfl) rfl #[.slice A0 l0.length c0, .int .i64 tv4] rfl qm_ ?_; (with_reducible refine (arena_Low.calls _ _ l0 tv4 tv6 tv7 _ ?side1 ?side2 Av4.out).mono ?_); (case side1 => exact Kd.C_below HR0.out (qg2_ GE139.out GEz1.out)); (case side2 => exact HC0.out); rintro e wz3 ⟨rfl, hb⟩; refine ⟨_, rfl, ?_⟩; have n0_ := Aside0.mk (blk_below (g := gb139) (o := .cells #[.int .i64 a1_0, .int .i64 a1_1, .int .i64 a1_2, .int .i64 a1_3, .slice (some adz1) l1_4.length c1_4] 24 (0, 0)) (by (with_reducible repeat (first | refine blk_drewN ?_ _ | refine blk_drew ?_ | refine blk_alloc ?_ _)); refine blk_far ?_ NBz1.out _; (with_reducible repeat (first | refine blk_drewN ?_ _ | refine blk_drew ?_ | refine blk_alloc ?_ _)); refine blk_far ?_ NBz1.out _; (with_reducible repeat (first | refine blk_drewN ?_ _ | refine blk_drew ?_ | refine blk_alloc ?_ _)); refine blk_far ?_ NBz1.out _; (with_reducible repeat (first | refine blk_drewN ?_ _ | refine blk_drew ?_ | refine blk_alloc ?_ _)); refine blk_far ?_ NBz1.out _; (with_reducible repeat (first | refine blk_drewN ?_ _ | refine blk_drew ?_ | refine blk_alloc ?_ _)); exact BK139.out) hb); have n1_ := Aside0.mk (blk_below (g := gbz1) (o := .cells #[.int .i64 tv1, .string tv2, .string tv3, .int .i64 tv4] 62 (0, 0)) (by (with_reducible repeat (first | refine blk_drewN ?_ _ | refine blk_drew ?_ | refine blk_alloc ?_ _)); refine blk_put (cs := #[.int .i64 tv1, .string tv2, .string tv3, .int .i64 0]) ?_ 3 _ rfl; (with_reducible repeat (first | refine blk_drewN ?_ _ | refine blk_drew ?_ | refine blk_alloc ?_ _)); refine blk_put (cs := #[.int .i64 tv1, .string tv2, .string (⟨#[]⟩ : ByteArray), .int .i64 0]) ?_ 2 _ rfl; (with_reducible repeat (first | refine blk_drewN ?_ _ | refine blk_drew ?_ | refine blk_alloc ?_ _)); refine blk_put (cs := #[.int .i64 tv1, .string (⟨#[]⟩ : ByteArray), .string (⟨#[]⟩ : ByteArray), .int .i64 0]) ?_ 1 _ rfl; (with_reducible repeat (first | refine blk_drewN ?_ _ | refine blk_drew ?_ | refine blk_alloc ?_ _)); refine blk_put (cs := #[.int .i64 0, .string (⟨#[]⟩ : ByteArray), .string (⟨#[]⟩ : ByteArray), .int .i64 0]) ?_ 0 _ rfl; (with_reducible repeat (first | refine blk_drewN ?_ _ | refine blk_drew ?_ | refine blk_alloc ?_ _)); exact BKz1.out) hb); have n2_ := Aside0.mk (below_step (qg2_ GE139.out GEz1.out) hb); clear BK139; clear BKz1; clear HB; have BK139 := n0_; have BKz1 := n1_; have HB := n2_; clear n0_ n1_ n2_; (try clear hb); (try clear hb2); (try clear hk); (try clear hi); have hczz5 : wz3.cell? ⟨gbz1, 0, none⟩ = some (.int .i64 tv1) := (blk_cell BKz1.out 0).trans rfl; have hczz6 : wz3.cell? ⟨gbz1, 1, none⟩ = some (.string tv2) := (blk_cell BKz1.out 1).trans rfl; have hczz7 : wz3.cell? ⟨gbz1, 2, none⟩ = some (.string tv3) := (blk_cell BKz1.out 2).trans rfl; have hczz8 : wz3.cell? ⟨gbz1, 3, none⟩ = some (.int .i64 tv4) := (blk_cell BKz1.out 3).trans rfl; have hfzz5 := blk_frozen BKz1.out 0; have hfzz6 := blk_frozen BKz1.out 1; have hfzz7 := blk_frozen BKz1.out 2; have hfzz8 := blk_frozen BKz1.out 3; have hczz9 : wz3.cell? ⟨gb139, 0, none⟩ = some (.int .i64 a1_0) := (blk_cell BK139.out 0).trans rfl; have hczz10 : wz3.cell? ⟨gb139, 1, none⟩ = some (.int .i64 a1_1) := (blk_cell BK139.out 1).trans rfl; have hczz11 : wz3.cell? ⟨gb139, 2, none⟩ = some (.int .i64 a1_2) := (blk_cell BK139.out 2).trans rfl; have hczz12 : wz3.cell? ⟨gb139, 3, none⟩ = some (.int .i64 a1_3) := (blk_cell BK139.out 3).trans rfl; have hczz13 : wz3.cell? ⟨gb139, 4, none⟩ = some (.slice (some adz1) l1_4.length c1_4) := (blk_cell BK139.out 4).trans rfl; have hfzz9 := blk_frozen BK139.out 0; have hfzz10 := blk_frozen BK139.out 1; have hfzz11 := blk_frozen BK139.out 2; have hfzz12 := blk_frozen BK139.out 3; have hfzz13 := blk_frozen BK139.out 4) | (go_at_call 55; (with_reducible refine (slices_Contains_int_int.calls _ _ l3 tv4 false _ ?side1 ?side2 Av6.out).mono ?_); (case side1 => repeat (first | exact (Kd.C_below HR3.out HB.out) | (with_reducible refine Kd.C_alloc ?_ _) | (with_reducible refine Kd.C_drewN ?_ _) | (with_reducible refine Kd.C_drew ?_))); (case side2 => exact HC3.out); rintro e wz4 ⟨rfl, hb⟩; have n0_ := Aside0.mk (blk_below (g := gb139) (o := .cells #[.int .i64 a1_0, .int .i64 a1_1, .int .i64 a1_2, .int .i64 a1_3, .slice (some adz1) l1_4.length c1_4] 24 (0, 0)) (qb_ BK139.out) hb); have n1_ := Aside0.mk (blk_below (g := gbz1) (o := .cells #[.int .i64 tv1, .string tv2, .string tv3, .int .i64 tv4] 62 (0, 0)) (qb_ BKz1.out) hb); have n2_ := Aside0.mk (below_step (qg2_ GE139.out GEz1.out) hb); clear BK139; clear BKz1; clear HB; have BK139 := n0_; have BKz1 := n1_; have HB := n2_; clear n0_ n1_ n2_; (try clear hb); (try clear hb2); (try clear hk); (try clear hi)))
        go_ret
        exact ⟨qe_, by repeat (first | (with_reducible first | exact HB.out | apply below_alloc | apply pw_below_drewN | apply below_drew1 | refine below_set ?_ GE139.out | refine below_set ?_ GEz1.out) | exact HB.out)⟩)
     | (clear hq4
        obtain rfl := Option.some.inj H
        have pz1 : 0 ≤ (x27_1 : Int) := of_decide_eq_true (by first | (with_reducible assumption) | assumption)
        have qz1 : x27_1 < (l1_4.length : Int) := of_decide_eq_true (by first | (with_reducible assumption) | assumption)
        obtain ⟨adz1, ez1, hxz1⟩ := Kd.at_int HR1_4.out x27_1 pz1 qz1
        cases ez1
        replace hxz1 := kc_ HB.out hxz1
        replace pz1 := eq_true pz1
        replace qz1 := eq_true qz1
        go_wp2_with (first | ((with_reducible refine gate_callee (f := 44) rfl ?_); refine goesL_ (some 35) rfl rfl Try.func44 (by kernel_rfl) rfl #[.slice A0 l0.length c0, .int .i64 (rd l1_4 x27_1)] rfl qm_ ?_; (with_reducible refine (rec_Read.calls _ _ l0 (rd l1_4 x27_1) tv1 tv2 tv3 tv4 tv5 _ ?side1 ?side2 Av2.out).mono ?_); (case side1 => repeat (first | exact (Kd.C_below HR0.out HB.out) | (with_reducible refine Kd.C_alloc ?_ _) | (with_reducible refine Kd.C_drewN ?_ _) | (with_reducible refine Kd.C_drew ?_))); (case side2 => exact HC0.out); rintro e wz1 ⟨rfl, hb⟩; refine ⟨_, rfl, ?_⟩; have n0_ := Aside0.mk (blk_below (g := gb139) (o := .cells #[.int .i64 a1_0, .int .i64 a1_1, .int .i64 a1_2, .int .i64 a1_3, .slice (some adz1) l1_4.length c1_4] 24 (0, 0)) (qb_ BK139.out) hb); have n1_ := Aside0.mk (below_step (qg1_ GE139.out) hb); clear BK139; clear HB; have BK139 := n0_; have HB := n1_; clear n0_ n1_; (try clear hb); (try clear hb2); (try clear hk); (try clear hi)) | ((with_reducible refine gate_dst (N := 13) rfl ?_); refine box_event ?hg (N := 13) ?hd (cs := #[.int .i64 0, .string (⟨#[]⟩ : ByteArray), .string (⟨#[]⟩ : ByteArray), .int .i64 0]) (t := 62) ?hr ?_; (case hd => rfl); (case hg => rfl); (case hr => first | (go_simp; done) | (go_simp; rfl)); intro gbz1 hg wz2 hbox hb; have n0_ := Aside0.mk (blk_below (g := gb139) (o := .cells #[.int .i64 a1_0, .int .i64 a1_1, .int .i64 a1_2, .int .i64 a1_3, .slice (some adz1) l1_4.length c1_4] 24 (0, 0)) (qb_ BK139.out) hb); have n1_ := Aside0.mk (below_step (qg1_ GE139.out) hb); have n2_ := Aside0.mk (hbox); have n3_ := Aside0.mk ((by rw [hg]; exact (below_size (qg1_ GE139.out)) : w.heap.size ≤ gbz1)); have n4_ := Aside0.mk ((by rw [hg]; exact (below_size (qg1_ GE139.out)) : w.heap.size ≤ gbz1)); have n5_ := Aside0.mk ((by rw [hg]; exact Nat.ne_of_lt (blk_lt (g := gb139) (o := .cells #[.int .i64 a1_0, .int .i64 a1_1, .int .i64 a1_2, .int .i64 a1_3, .slice (some adz1) l1_4.length c1_4] 24 (0, 0)) (qb_ BK139.out)) : gb139 ≠ gbz1)); have n6_ := Aside0.mk ((by rw [hg]; exact Nat.ne_of_gt (blk_lt (g := gb139) (o := .cells #[.int .i64 a1_0, .int .i64 a1_1, .int .i64 a1_2, .int .i64 a1_3, .slice (some adz1) l1_4.length c1_4] 24 (0, 0)) (qb_ BK139.out)) : gbz1 ≠ gb139)); clear BK139; clear HB; have BK139 := n0_; have HB := n1_; have BKz1 := n2_; have GWz1 := n3_; have GEz1 := n4_; have NBz1 := n5_; have NBz2 := n6_; clear n0_ n1_ n2_ n3_ n4_ n5_ n6_; clear hb hbox hg; have hnbz1 := NBz2.out; have hncz1 := NBz1.out; have hczz1 : wz2.cell? ⟨gbz1, 0, none⟩ = some (.int .i64 0) := (blk_cell BKz1.out 0).trans rfl; have hczz2 : wz2.cell? ⟨gbz1, 1, none⟩ = some (.string (⟨#[]⟩ : ByteArray)) := (blk_cell BKz1.out 1).trans rfl; have hczz3 : wz2.cell? ⟨gbz1, 2, none⟩ = some (.string (⟨#[]⟩ : ByteArray)) := (blk_cell BKz1.out 2).trans rfl; have hczz4 : wz2.cell? ⟨gbz1, 3, none⟩ = some (.int .i64 0) := (blk_cell BKz1.out 3).trans rfl; have hfzz1 := blk_frozen BKz1.out 0; have hfzz2 := blk_frozen BKz1.out 1; have hfzz3 := blk_frozen BKz1.out 2; have hfzz4 := blk_frozen BKz1.out 3) | ((with_reducible refine gate_callee (f := 22) rfl ?_); refine goesL_ (some 42) rfl rfl Try.func22 (by kernel_rfl) rfl #[.slice A0 l0.length c0, .int .i64 tv4] rfl qm_ ?_; (with_reducible refine (arena_Low.calls _ _ l0 tv4 tv6 tv7 _ ?side1 ?side2 Av4.out).mono ?_); (case side1 => exact Kd.C_below HR0.out (qg2_ GE139.out GEz1.out)); (case side2 => exact HC0.out); rintro e wz3 ⟨rfl, hb⟩; refine ⟨_, rfl, ?_⟩; have n0_ := Aside0.mk (blk_below (g := gb139) (o := .cells #[.int .i64 a1_0, .int .i64 a1_1, .int .i64 a1_2, .int .i64 a1_3, .slice (some adz1) l1_4.length c1_4] 24 (0, 0)) (by (with_reducible repeat (first | refine blk_drewN ?_ _ | refine blk_drew ?_ | refine blk_alloc ?_ _)); refine blk_far ?_ NBz1.out _; (with_reducible repeat (first | refine blk_drewN ?_ _ | refine blk_drew ?_ | refine blk_alloc ?_ _)); refine blk_far ?_ NBz1.out _; (with_reducible repeat (first | refine blk_drewN ?_ _ | refine blk_drew ?_ | refine blk_alloc ?_ _)); refine blk_far ?_ NBz1.out _; (with_reducible repeat (first | refine blk_drewN ?_ _ | refine blk_drew ?_ | refine blk_alloc ?_ _)); refine blk_far ?_ NBz1.out _; (with_reducible repeat (first | refine blk_drewN ?_ _ | refine blk_drew ?_ | refine blk_alloc ?_ _)); exact BK139.out) hb); have n1_ := Aside0.mk (blk_below (g := gbz1) (o := .cells #[.int .i64 tv1, .string tv2, .string tv3, .int .i64 tv4] 62 (0, 0)) (by (with_reducible repeat (first | refine blk_drewN ?_ _ | refine blk_drew ?_ | refine blk_alloc ?_ _)); refine blk_put (cs := #[.int .i64 tv1, .string tv2, .string tv3, .int .i64 0]) ?_ 3 _ rfl; (with_reducible repeat (first | refine blk_drewN ?_ _ | refine blk_drew ?_ | refine blk_alloc ?_ _)); refine blk_put (cs := #[.int .i64 tv1, .string tv2, .string (⟨#[]⟩ : ByteArray), .int .i64 0]) ?_ 2 _ rfl; (with_reducible repeat (first | refine blk_drewN ?_ _ | refine blk_drew ?_ | refine blk_alloc ?_ _)); refine blk_put (cs := #[.int .i64 tv1, .string (⟨#[]⟩ : ByteArray), .string (⟨#[]⟩ : ByteArray), .int .i64 0]) ?_ 1 _ rfl; (with_reducible repeat (first | refine blk_drewN ?_ _ | refine blk_drew ?_ | refine blk_alloc ?_ _)); refine blk_put (cs := #[.int .i64 0, .string (⟨#[]⟩ : ByteArray), .string (⟨#[]⟩ : ByteArray), .int .i64 0]) ?_ 0 _ rfl; (with_reducible repeat (first | refine blk_drewN ?_ _ | refine blk_drew ?_ | refine blk_alloc ?_ _)); exact BKz1.out) hb); have n2_ := Aside0.mk (below_step (qg2_ GE139.out GEz1.out) hb); clear BK139; clear BKz1; clear HB; have BK139 := n0_; have BKz1 := n1_; have HB := n2_; clear n0_ n1_ n2_; (try clear hb); (try clear hb2); (try clear hk); (try clear hi); have hczz5 : wz3.cell? ⟨gbz1, 0, none⟩ = some (.int .i64 tv1) := (blk_cell BKz1.out 0).trans rfl; have hczz6 : wz3.cell? ⟨gbz1, 1, none⟩ = some (.string tv2) := (blk_cell BKz1.out 1).trans rfl; have hczz7 : wz3.cell? ⟨gbz1, 2, none⟩ = some (.string tv3) := (blk_cell BKz1.out 2).trans rfl; have hczz8 : wz3.cell? ⟨gbz1, 3, none⟩ = some (.int .i64 tv4) := (blk_cell BKz1.out 3).trans rfl; have hfzz5 := blk_frozen BKz1.out 0; have hfzz6 := blk_frozen BKz1.out 1; have hfzz7 := blk_frozen BKz1.out 2; have hfzz8 := blk_frozen BKz1.out 3; have hczz9 : wz3.cell? ⟨gb139, 0, none⟩ = some (.int .i64 a1_0) := (blk_cell BK139.out 0).trans rfl; have hczz10 : wz3.cell? ⟨gb139, 1, none⟩ = some (.int .i64 a1_1) := (blk_cell BK139.out 1).trans rfl; have hczz11 : wz3.cell? ⟨gb139, 2, none⟩ = some (.int .i64 a1_2) := (blk_cell BK139.out 2).trans rfl; have hczz12 : wz3.cell? ⟨gb139, 3, none⟩ = some (.int .i64 a1_3) := (blk_cell BK139.out 3).trans rfl; have hczz13 : wz3.cell? ⟨gb139, 4, none⟩ = some (.slice (some adz1) l1_4.length c1_4) := (blk_cell BK139.out 4).trans rfl; have hfzz9 := blk_frozen BK139.out 0; have hfzz10 := blk_frozen BK139.out 1; have hfzz11 := blk_frozen BK139.out 2; have hfzz12 := blk_frozen BK139.out 3; have hfzz13 := blk_frozen BK139.out 4))
        go_ret
        exact ⟨qe_, by repeat (first | (with_reducible first | exact HB.out | apply below_alloc | apply pw_below_drewN | apply below_drew1 | refine below_set ?_ GE139.out | refine below_set ?_ GEz1.out) | exact HB.out)⟩)
     | (clear hq5
        clear cv11
        have H' := Aside0.mk H
        clear H
        have pz1 : 0 ≤ (x27_1 : Int) := of_decide_eq_true (by first | (with_reducible assumption) | assumption)
        have qz1 : x27_1 < (l1_4.length : Int) := of_decide_eq_true (by first | (with_reducible assumption) | assumption)
        obtain ⟨adz1, ez1, hxz1⟩ := Kd.at_int HR1_4.out x27_1 pz1 qz1
        cases ez1
        replace hxz1 := kc_ HB.out hxz1
        replace pz1 := eq_true pz1
        replace qz1 := eq_true qz1
        go_wp2_with (first | ((with_reducible refine gate_callee (f := 44) rfl ?_); refine goesL_ (some 35) rfl rfl Try.func44 (by kernel_rfl) rfl #[.slice A0 l0.length c0, .int .i64 (rd l1_4 x27_1)] rfl qm_ ?_; (with_reducible refine (rec_Read.calls _ _ l0 (rd l1_4 x27_1) tv1 tv2 tv3 tv4 tv5 _ ?side1 ?side2 Av2.out).mono ?_); (case side1 => repeat (first | exact (Kd.C_below HR0.out HB.out) | (with_reducible refine Kd.C_alloc ?_ _) | (with_reducible refine Kd.C_drewN ?_ _) | (with_reducible refine Kd.C_drew ?_))); (case side2 => exact HC0.out); rintro e wz1 ⟨rfl, hb⟩; refine ⟨_, rfl, ?_⟩; have n0_ := Aside0.mk (blk_below (g := gb139) (o := .cells #[.int .i64 a1_0, .int .i64 a1_1, .int .i64 a1_2, .int .i64 a1_3, .slice (some adz1) l1_4.length c1_4] 24 (0, 0)) (qb_ BK139.out) hb); have n1_ := Aside0.mk (below_step (qg1_ GE139.out) hb); clear BK139; clear HB; have BK139 := n0_; have HB := n1_; clear n0_ n1_; (try clear hb); (try clear hb2); (try clear hk); (try clear hi)) | ((with_reducible refine gate_dst (N := 13) rfl ?_); refine box_event ?hg (N := 13) ?hd (cs := #[.int .i64 0, .string (⟨#[]⟩ : ByteArray), .string (⟨#[]⟩ : ByteArray), .int .i64 0]) (t := 62) ?hr ?_; (case hd => rfl); (case hg => rfl); (case hr => first | (go_simp; done) | (go_simp; rfl)); intro gbz1 hg wz2 hbox hb; have n0_ := Aside0.mk (blk_below (g := gb139) (o := .cells #[.int .i64 a1_0, .int .i64 a1_1, .int .i64 a1_2, .int .i64 a1_3, .slice (some adz1) l1_4.length c1_4] 24 (0, 0)) (qb_ BK139.out) hb); have n1_ := Aside0.mk (below_step (qg1_ GE139.out) hb); have n2_ := Aside0.mk (hbox); have n3_ := Aside0.mk ((by rw [hg]; exact (below_size (qg1_ GE139.out)) : w.heap.size ≤ gbz1)); have n4_ := Aside0.mk ((by rw [hg]; exact (below_size (qg1_ GE139.out)) : w.heap.size ≤ gbz1)); have n5_ := Aside0.mk ((by rw [hg]; exact Nat.ne_of_lt (blk_lt (g := gb139) (o := .cells #[.int .i64 a1_0, .int .i64 a1_1, .int .i64 a1_2, .int .i64 a1_3, .slice (some adz1) l1_4.length c1_4] 24 (0, 0)) (qb_ BK139.out)) : gb139 ≠ gbz1)); have n6_ := Aside0.mk ((by rw [hg]; exact Nat.ne_of_gt (blk_lt (g := gb139) (o := .cells #[.int .i64 a1_0, .int .i64 a1_1, .int .i64 a1_2, .int .i64 a1_3, .slice (some adz1) l1_4.length c1_4] 24 (0, 0)) (qb_ BK139.out)) : gbz1 ≠ gb139)); clear BK139; clear HB; have BK139 := n0_; have HB := n1_; have BKz1 := n2_; have GWz1 := n3_; have GEz1 := n4_; have NBz1 := n5_; have NBz2 := n6_; clear n0_ n1_ n2_ n3_ n4_ n5_ n6_; clear hb hbox hg; have hnbz1 := NBz2.out; have hncz1 := NBz1.out; have hczz1 : wz2.cell? ⟨gbz1, 0, none⟩ = some (.int .i64 0) := (blk_cell BKz1.out 0).trans rfl; have hczz2 : wz2.cell? ⟨gbz1, 1, none⟩ = some (.string (⟨#[]⟩ : ByteArray)) := (blk_cell BKz1.out 1).trans rfl; have hczz3 : wz2.cell? ⟨gbz1, 2, none⟩ = some (.string (⟨#[]⟩ : ByteArray)) := (blk_cell BKz1.out 2).trans rfl; have hczz4 : wz2.cell? ⟨gbz1, 3, none⟩ = some (.int .i64 0) := (blk_cell BKz1.out 3).trans rfl; have hfzz1 := blk_frozen BKz1.out 0; have hfzz2 := blk_frozen BKz1.out 1; have hfzz3 := blk_frozen BKz1.out 2; have hfzz4 := blk_frozen BKz1.out 3) | ((with_reducible refine gate_callee (f := 22) rfl ?_); refine goesL_ (some 42) rfl rfl Try.func22 (by kernel_rfl) rfl #[.slice A0 l0.length c0, .int .i64 tv4] rfl qm_ ?_; (with_reducible refine (arena_Low.calls _ _ l0 tv4 tv6 tv7 _ ?side1 ?side2 Av4.out).mono ?_); (case side1 => exact Kd.C_below HR0.out (qg2_ GE139.out GEz1.out)); (case side2 => exact HC0.out); rintro e wz3 ⟨rfl, hb⟩; refine ⟨_, rfl, ?_⟩; have n0_ := Aside0.mk (blk_below (g := gb139) (o := .cells #[.int .i64 a1_0, .int .i64 a1_1, .int .i64 a1_2, .int .i64 a1_3, .slice (some adz1) l1_4.length c1_4] 24 (0, 0)) (by (with_reducible repeat (first | refine blk_drewN ?_ _ | refine blk_drew ?_ | refine blk_alloc ?_ _)); refine blk_far ?_ NBz1.out _; (with_reducible repeat (first | refine blk_drewN ?_ _ | refine blk_drew ?_ | refine blk_alloc ?_ _)); refine blk_far ?_ NBz1.out _; (with_reducible repeat (first | refine blk_drewN ?_ _ | refine blk_drew ?_ | refine blk_alloc ?_ _)); refine blk_far ?_ NBz1.out _; (with_reducible repeat (first | refine blk_drewN ?_ _ | refine blk_drew ?_ | refine blk_alloc ?_ _)); refine blk_far ?_ NBz1.out _; (with_reducible repeat (first | refine blk_drewN ?_ _ | refine blk_drew ?_ | refine blk_alloc ?_ _)); exact BK139.out) hb); have n1_ := Aside0.mk (blk_below (g := gbz1) (o := .cells #[.int .i64 tv1, .string tv2, .string tv3, .int .i64 tv4] 62 (0, 0)) (by (with_reducible repeat (first | refine blk_drewN ?_ _ | refine blk_drew ?_ | refine blk_alloc ?_ _)); refine blk_put (cs := #[.int .i64 tv1, .string tv2, .string tv3, .int .i64 0]) ?_ 3 _ rfl; (with_reducible repeat (first | refine blk_drewN ?_ _ | refine blk_drew ?_ | refine blk_alloc ?_ _)); refine blk_put (cs := #[.int .i64 tv1, .string tv2, .string (⟨#[]⟩ : ByteArray), .int .i64 0]) ?_ 2 _ rfl; (with_reducible repeat (first | refine blk_drewN ?_ _ | refine blk_drew ?_ | refine blk_alloc ?_ _)); refine blk_put (cs := #[.int .i64 tv1, .string (⟨#[]⟩ : ByteArray), .string (⟨#[]⟩ : ByteArray), .int .i64 0]) ?_ 1 _ rfl; (with_reducible repeat (first | refine blk_drewN ?_ _ | refine blk_drew ?_ | refine blk_alloc ?_ _)); refine blk_put (cs := #[.int .i64 0, .string (⟨#[]⟩ : ByteArray), .string (⟨#[]⟩ : ByteArray), .int .i64 0]) ?_ 0 _ rfl; (with_reducible repeat (first | refine blk_drewN ?_ _ | refine blk_drew ?_ | refine blk_alloc ?_ _)); exact BKz1.out) hb); have n2_ := Aside0.mk (below_step (qg2_ GE139.out GEz1.out) hb); clear BK139; clear BKz1; clear HB; have BK139 := n0_; have BKz1 := n1_; have HB := n2_; clear n0_ n1_ n2_; (try clear hb); (try clear hb2); (try clear hk); (try clear hi); have hczz5 : wz3.cell? ⟨gbz1, 0, none⟩ = some (.int .i64 tv1) := (blk_cell BKz1.out 0).trans rfl; have hczz6 : wz3.cell? ⟨gbz1, 1, none⟩ = some (.string tv2) := (blk_cell BKz1.out 1).trans rfl; have hczz7 : wz3.cell? ⟨gbz1, 2, none⟩ = some (.string tv3) := (blk_cell BKz1.out 2).trans rfl; have hczz8 : wz3.cell? ⟨gbz1, 3, none⟩ = some (.int .i64 tv4) := (blk_cell BKz1.out 3).trans rfl; have hfzz5 := blk_frozen BKz1.out 0; have hfzz6 := blk_frozen BKz1.out 1; have hfzz7 := blk_frozen BKz1.out 2; have hfzz8 := blk_frozen BKz1.out 3; have hczz9 : wz3.cell? ⟨gb139, 0, none⟩ = some (.int .i64 a1_0) := (blk_cell BK139.out 0).trans rfl; have hczz10 : wz3.cell? ⟨gb139, 1, none⟩ = some (.int .i64 a1_1) := (blk_cell BK139.out 1).trans rfl; have hczz11 : wz3.cell? ⟨gb139, 2, none⟩ = some (.int .i64 a1_2) := (blk_cell BK139.out 2).trans rfl; have hczz12 : wz3.cell? ⟨gb139, 3, none⟩ = some (.int .i64 a1_3) := (blk_cell BK139.out 3).trans rfl; have hczz13 : wz3.cell? ⟨gb139, 4, none⟩ = some (.slice (some adz1) l1_4.length c1_4) := (blk_cell BK139.out 4).trans rfl; have hfzz9 := blk_frozen BK139.out 0; have hfzz10 := blk_frozen BK139.out 1; have hfzz11 := blk_frozen BK139.out 2; have hfzz12 := blk_frozen BK139.out 3; have hfzz13 := blk_frozen BK139.out 4) | (go_at_call 55; (with_reducible refine (slices_Contains_int_int.calls _ _ l3 tv4 true _ ?side1 ?side2 Av6.out).mono ?_); (case side1 => repeat (first | exact (Kd.C_below HR3.out HB.out) | (with_reducible refine Kd.C_alloc ?_ _) | (with_reducible refine Kd.C_drewN ?_ _) | (with_reducible refine Kd.C_drew ?_))); (case side2 => exact HC3.out); rintro e wz4 ⟨rfl, hb⟩; have n0_ := Aside0.mk (blk_below (g := gb139) (o := .cells #[.int .i64 a1_0, .int .i64 a1_1, .int .i64 a1_2, .int .i64 a1_3, .slice (some adz1) l1_4.length c1_4] 24 (0, 0)) (qb_ BK139.out) hb); have n1_ := Aside0.mk (blk_below (g := gbz1) (o := .cells #[.int .i64 tv1, .string tv2, .string tv3, .int .i64 tv4] 62 (0, 0)) (qb_ BKz1.out) hb); have n2_ := Aside0.mk (below_step (qg2_ GE139.out GEz1.out) hb); clear BK139; clear BKz1; clear HB; have BK139 := n0_; have BKz1 := n1_; have HB := n2_; clear n0_ n1_ n2_; (try clear hb); (try clear hb2); (try clear hk); (try clear hi); have hczz14 : wz4.cell? ⟨gbz1, 0, none⟩ = some (.int .i64 tv1) := (blk_cell BKz1.out 0).trans rfl; have hczz15 : wz4.cell? ⟨gbz1, 1, none⟩ = some (.string tv2) := (blk_cell BKz1.out 1).trans rfl; have hczz16 : wz4.cell? ⟨gbz1, 2, none⟩ = some (.string tv3) := (blk_cell BKz1.out 2).trans rfl; have hczz17 : wz4.cell? ⟨gbz1, 3, none⟩ = some (.int .i64 tv4) := (blk_cell BKz1.out 3).trans rfl; have hfzz14 := blk_frozen BKz1.out 0; have hfzz15 := blk_frozen BKz1.out 1; have hfzz16 := blk_frozen BKz1.out 2; have hfzz17 := blk_frozen BKz1.out 3))
        go_roundg k1
        case measure => have := HK1.out; omega
        case rel => exact ⟨(tv2), (wrap64 (x27_1 + 1)), (by first | rfl | (simp; done) | (simp [*]; done)), (by first | rfl | (simp; done) | (simp [*]; done)), H', ⟨by have := HK1.out; omega⟩, ⟨by (with_reducible repeat (first | refine blk_drewN ?_ _ | refine blk_drew ?_ | refine blk_alloc ?_ _)); exact BK139.out⟩, ⟨by repeat (first | (with_reducible first | exact HB.out | apply below_alloc | apply pw_below_drewN | apply below_drew1 | refine below_set ?_ GE139.out | refine below_set ?_ GEz1.out) | exact HB.out)⟩⟩)
     | (clear hq6
        replace cv9 := Bool.eq_false_iff.mpr cv9
        subst cv9
        have Hz1 : (some false) = some r := by rw [if_neg (show ¬ (false = true) by decide)] at H; exact H
        clear H
        have H := Hz1
        clear Hz1
        obtain rfl := Option.some.inj H
        have pz1 : 0 ≤ (x27_1 : Int) := of_decide_eq_true (by first | (with_reducible assumption) | assumption)
        have qz1 : x27_1 < (l1_4.length : Int) := of_decide_eq_true (by first | (with_reducible assumption) | assumption)
        obtain ⟨adz1, ez1, hxz1⟩ := Kd.at_int HR1_4.out x27_1 pz1 qz1
        cases ez1
        replace hxz1 := kc_ HB.out hxz1
        replace pz1 := eq_true pz1
        replace qz1 := eq_true qz1
        go_wp2_with (first | ((with_reducible refine gate_callee (f := 44) rfl ?_); refine goesL_ (some 35) rfl rfl Try.func44 (by kernel_rfl) rfl #[.slice A0 l0.length c0, .int .i64 (rd l1_4 x27_1)] rfl qm_ ?_; (with_reducible refine (rec_Read.calls _ _ l0 (rd l1_4 x27_1) tv1 tv2 tv3 tv4 tv5 _ ?side1 ?side2 Av2.out).mono ?_); (case side1 => repeat (first | exact (Kd.C_below HR0.out HB.out) | (with_reducible refine Kd.C_alloc ?_ _) | (with_reducible refine Kd.C_drewN ?_ _) | (with_reducible refine Kd.C_drew ?_))); (case side2 => exact HC0.out); rintro e wz1 ⟨rfl, hb⟩; refine ⟨_, rfl, ?_⟩; have n0_ := Aside0.mk (blk_below (g := gb139) (o := .cells #[.int .i64 a1_0, .int .i64 a1_1, .int .i64 a1_2, .int .i64 a1_3, .slice (some adz1) l1_4.length c1_4] 24 (0, 0)) (qb_ BK139.out) hb); have n1_ := Aside0.mk (below_step (qg1_ GE139.out) hb); clear BK139; clear HB; have BK139 := n0_; have HB := n1_; clear n0_ n1_; (try clear hb); (try clear hb2); (try clear hk); (try clear hi)) | ((with_reducible refine gate_dst (N := 13) rfl ?_); refine box_event ?hg (N := 13) ?hd (cs := #[.int .i64 0, .string (⟨#[]⟩ : ByteArray), .string (⟨#[]⟩ : ByteArray), .int .i64 0]) (t := 62) ?hr ?_; (case hd => rfl); (case hg => rfl); (case hr => first | (go_simp; done) | (go_simp; rfl)); intro gbz1 hg wz2 hbox hb; have n0_ := Aside0.mk (blk_below (g := gb139) (o := .cells #[.int .i64 a1_0, .int .i64 a1_1, .int .i64 a1_2, .int .i64 a1_3, .slice (some adz1) l1_4.length c1_4] 24 (0, 0)) (qb_ BK139.out) hb); have n1_ := Aside0.mk (below_step (qg1_ GE139.out) hb); have n2_ := Aside0.mk (hbox); have n3_ := Aside0.mk ((by rw [hg]; exact (below_size (qg1_ GE139.out)) : w.heap.size ≤ gbz1)); have n4_ := Aside0.mk ((by rw [hg]; exact (below_size (qg1_ GE139.out)) : w.heap.size ≤ gbz1)); have n5_ := Aside0.mk ((by rw [hg]; exact Nat.ne_of_lt (blk_lt (g := gb139) (o := .cells #[.int .i64 a1_0, .int .i64 a1_1, .int .i64 a1_2, .int .i64 a1_3, .slice (some adz1) l1_4.length c1_4] 24 (0, 0)) (qb_ BK139.out)) : gb139 ≠ gbz1)); have n6_ := Aside0.mk ((by rw [hg]; exact Nat.ne_of_gt (blk_lt (g := gb139) (o := .cells #[.int .i64 a1_0, .int .i64 a1_1, .int .i64 a1_2, .int .i64 a1_3, .slice (some adz1) l1_4.length c1_4] 24 (0, 0)) (qb_ BK139.out)) : gbz1 ≠ gb139)); clear BK139; clear HB; have BK139 := n0_; have HB := n1_; have BKz1 := n2_; have GWz1 := n3_; have GEz1 := n4_; have NBz1 := n5_; have NBz2 := n6_; clear n0_ n1_ n2_ n3_ n4_ n5_ n6_; clear hb hbox hg; have hnbz1 := NBz2.out; have hncz1 := NBz1.out; have hczz1 : wz2.cell? ⟨gbz1, 0, none⟩ = some (.int .i64 0) := (blk_cell BKz1.out 0).trans rfl; have hczz2 : wz2.cell? ⟨gbz1, 1, none⟩ = some (.string (⟨#[]⟩ : ByteArray)) := (blk_cell BKz1.out 1).trans rfl; have hczz3 : wz2.cell? ⟨gbz1, 2, none⟩ = some (.string (⟨#[]⟩ : ByteArray)) := (blk_cell BKz1.out 2).trans rfl; have hczz4 : wz2.cell? ⟨gbz1, 3, none⟩ = some (.int .i64 0) := (blk_cell BKz1.out 3).trans rfl; have hfzz1 := blk_frozen BKz1.out 0; have hfzz2 := blk_frozen BKz1.out 1; have hfzz3 := blk_frozen BKz1.out 2; have hfzz4 := blk_frozen BKz1.out 3) | ((with_reducible refine gate_callee (f := 22) rfl ?_); refine goesL_ (some 42) rfl rfl Try.func22 (by kernel_rfl) rfl #[.slice A0 l0.length c0, .int .i64 tv4] rfl qm_ ?_; (with_reducible refine (arena_Low.calls _ _ l0 tv4 tv6 tv7 _ ?side1 ?side2 Av4.out).mono ?_); (case side1 => exact Kd.C_below HR0.out (qg2_ GE139.out GEz1.out)); (case side2 => exact HC0.out); rintro e wz3 ⟨rfl, hb⟩; refine ⟨_, rfl, ?_⟩; have n0_ := Aside0.mk (blk_below (g := gb139) (o := .cells #[.int .i64 a1_0, .int .i64 a1_1, .int .i64 a1_2, .int .i64 a1_3, .slice (some adz1) l1_4.length c1_4] 24 (0, 0)) (by (with_reducible repeat (first | refine blk_drewN ?_ _ | refine blk_drew ?_ | refine blk_alloc ?_ _)); refine blk_far ?_ NBz1.out _; (with_reducible repeat (first | refine blk_drewN ?_ _ | refine blk_drew ?_ | refine blk_alloc ?_ _)); refine blk_far ?_ NBz1.out _; (with_reducible repeat (first | refine blk_drewN ?_ _ | refine blk_drew ?_ | refine blk_alloc ?_ _)); refine blk_far ?_ NBz1.out _; (with_reducible repeat (first | refine blk_drewN ?_ _ | refine blk_drew ?_ | refine blk_alloc ?_ _)); refine blk_far ?_ NBz1.out _; (with_reducible repeat (first | refine blk_drewN ?_ _ | refine blk_drew ?_ | refine blk_alloc ?_ _)); exact BK139.out) hb); have n1_ := Aside0.mk (blk_below (g := gbz1) (o := .cells #[.int .i64 tv1, .string tv2, .string tv3, .int .i64 tv4] 62 (0, 0)) (by (with_reducible repeat (first | refine blk_drewN ?_ _ | refine blk_drew ?_ | refine blk_alloc ?_ _)); refine blk_put (cs := #[.int .i64 tv1, .string tv2, .string tv3, .int .i64 0]) ?_ 3 _ rfl; (with_reducible repeat (first | refine blk_drewN ?_ _ | refine blk_drew ?_ | refine blk_alloc ?_ _)); refine blk_put (cs := #[.int .i64 tv1, .string tv2, .string (⟨#[]⟩ : ByteArray), .int .i64 0]) ?_ 2 _ rfl; (with_reducible repeat (first | refine blk_drewN ?_ _ | refine blk_drew ?_ | refine blk_alloc ?_ _)); refine blk_put (cs := #[.int .i64 tv1, .string (⟨#[]⟩ : ByteArray), .string (⟨#[]⟩ : ByteArray), .int .i64 0]) ?_ 1 _ rfl; (with_reducible repeat (first | refine blk_drewN ?_ _ | refine blk_drew ?_ | refine blk_alloc ?_ _)); refine blk_put (cs := #[.int .i64 0, .string (⟨#[]⟩ : ByteArray), .string (⟨#[]⟩ : ByteArray), .int .i64 0]) ?_ 0 _ rfl; (with_reducible repeat (first | refine blk_drewN ?_ _ | refine blk_drew ?_ | refine blk_alloc ?_ _)); exact BKz1.out) hb); have n2_ := Aside0.mk (below_step (qg2_ GE139.out GEz1.out) hb); clear BK139; clear BKz1; clear HB; have BK139 := n0_; have BKz1 := n1_; have HB := n2_; clear n0_ n1_ n2_; (try clear hb); (try clear hb2); (try clear hk); (try clear hi); have hczz5 : wz3.cell? ⟨gbz1, 0, none⟩ = some (.int .i64 tv1) := (blk_cell BKz1.out 0).trans rfl; have hczz6 : wz3.cell? ⟨gbz1, 1, none⟩ = some (.string tv2) := (blk_cell BKz1.out 1).trans rfl; have hczz7 : wz3.cell? ⟨gbz1, 2, none⟩ = some (.string tv3) := (blk_cell BKz1.out 2).trans rfl; have hczz8 : wz3.cell? ⟨gbz1, 3, none⟩ = some (.int .i64 tv4) := (blk_cell BKz1.out 3).trans rfl; have hfzz5 := blk_frozen BKz1.out 0; have hfzz6 := blk_frozen BKz1.out 1; have hfzz7 := blk_frozen BKz1.out 2; have hfzz8 := blk_frozen BKz1.out 3; have hczz9 : wz3.cell? ⟨gb139, 0, none⟩ = some (.int .i64 a1_0) := (blk_cell BK139.out 0).trans rfl; have hczz10 : wz3.cell? ⟨gb139, 1, none⟩ = some (.int .i64 a1_1) := (blk_cell BK139.out 1).trans rfl; have hczz11 : wz3.cell? ⟨gb139, 2, none⟩ = some (.int .i64 a1_2) := (blk_cell BK139.out 2).trans rfl; have hczz12 : wz3.cell? ⟨gb139, 3, none⟩ = some (.int .i64 a1_3) := (blk_cell BK139.out 3).trans rfl; have hczz13 : wz3.cell? ⟨gb139, 4, none⟩ = some (.slice (some adz1) l1_4.length c1_4) := (blk_cell BK139.out 4).trans rfl; have hfzz9 := blk_frozen BK139.out 0; have hfzz10 := blk_frozen BK139.out 1; have hfzz11 := blk_frozen BK139.out 2; have hfzz12 := blk_frozen BK139.out 3; have hfzz13 := blk_frozen BK139.out 4) | (go_at_call 55; (with_reducible refine (slices_Contains_int_int.calls _ _ l3 tv4 false _ ?side1 ?side2 Av6.out).mono ?_); (case side1 => repeat (first | exact (Kd.C_below HR3.out HB.out) | (with_reducible refine Kd.C_alloc ?_ _) | (with_reducible refine Kd.C_drewN ?_ _) | (with_reducible refine Kd.C_drew ?_))); (case side2 => exact HC3.out); rintro e wz4 ⟨rfl, hb⟩; have n0_ := Aside0.mk (blk_below (g := gb139) (o := .cells #[.int .i64 a1_0, .int .i64 a1_1, .int .i64 a1_2, .int .i64 a1_3, .slice (some adz1) l1_4.length c1_4] 24 (0, 0)) (qb_ BK139.out) hb); have n1_ := Aside0.mk (blk_below (g := gbz1) (o := .cells #[.int .i64 tv1, .string tv2, .string tv3, .int .i64 tv4] 62 (0, 0)) (qb_ BKz1.out) hb); have n2_ := Aside0.mk (below_step (qg2_ GE139.out GEz1.out) hb); clear BK139; clear BKz1; clear HB; have BK139 := n0_; have BKz1 := n1_; have HB := n2_; clear n0_ n1_ n2_; (try clear hb); (try clear hb2); (try clear hk); (try clear hi)))
        go_ret
        exact ⟨qe_, by repeat (first | (with_reducible first | exact HB.out | apply below_alloc | apply pw_below_drewN | apply below_drew1 | refine below_set ?_ GE139.out | refine below_set ?_ GEz1.out) | exact HB.out)⟩)
     | (clear hq7
        have H' := Aside0.mk H
        clear H
        have pz1 : 0 ≤ (x27_1 : Int) := of_decide_eq_true (by first | (with_reducible assumption) | assumption)
        have qz1 : x27_1 < (l1_4.length : Int) := of_decide_eq_true (by first | (with_reducible assumption) | assumption)
        obtain ⟨adz1, ez1, hxz1⟩ := Kd.at_int HR1_4.out x27_1 pz1 qz1
        cases ez1
        replace hxz1 := kc_ HB.out hxz1
        replace pz1 := eq_true pz1
        replace qz1 := eq_true qz1
        go_wp2_with (first | ((with_reducible refine gate_callee (f := 44) rfl ?_); refine goesL_ (some 35) rfl rfl Try.func44 (by kernel_rfl) rfl #[.slice A0 l0.length c0, .int .i64 (rd l1_4 x27_1)] rfl qm_ ?_; (with_reducible refine (rec_Read.calls _ _ l0 (rd l1_4 x27_1) tv1 tv2 tv3 tv4 tv5 _ ?side1 ?side2 Av2.out).mono ?_); (case side1 => repeat (first | exact (Kd.C_below HR0.out HB.out) | (with_reducible refine Kd.C_alloc ?_ _) | (with_reducible refine Kd.C_drewN ?_ _) | (with_reducible refine Kd.C_drew ?_))); (case side2 => exact HC0.out); rintro e wz1 ⟨rfl, hb⟩; refine ⟨_, rfl, ?_⟩; have n0_ := Aside0.mk (blk_below (g := gb139) (o := .cells #[.int .i64 a1_0, .int .i64 a1_1, .int .i64 a1_2, .int .i64 a1_3, .slice (some adz1) l1_4.length c1_4] 24 (0, 0)) (qb_ BK139.out) hb); have n1_ := Aside0.mk (below_step (qg1_ GE139.out) hb); clear BK139; clear HB; have BK139 := n0_; have HB := n1_; clear n0_ n1_; (try clear hb); (try clear hb2); (try clear hk); (try clear hi)) | ((with_reducible refine gate_dst (N := 13) rfl ?_); refine box_event ?hg (N := 13) ?hd (cs := #[.int .i64 0, .string (⟨#[]⟩ : ByteArray), .string (⟨#[]⟩ : ByteArray), .int .i64 0]) (t := 62) ?hr ?_; (case hd => rfl); (case hg => rfl); (case hr => first | (go_simp; done) | (go_simp; rfl)); intro gbz1 hg wz2 hbox hb; have n0_ := Aside0.mk (blk_below (g := gb139) (o := .cells #[.int .i64 a1_0, .int .i64 a1_1, .int .i64 a1_2, .int .i64 a1_3, .slice (some adz1) l1_4.length c1_4] 24 (0, 0)) (qb_ BK139.out) hb); have n1_ := Aside0.mk (below_step (qg1_ GE139.out) hb); have n2_ := Aside0.mk (hbox); have n3_ := Aside0.mk ((by rw [hg]; exact (below_size (qg1_ GE139.out)) : w.heap.size ≤ gbz1)); have n4_ := Aside0.mk ((by rw [hg]; exact (below_size (qg1_ GE139.out)) : w.heap.size ≤ gbz1)); have n5_ := Aside0.mk ((by rw [hg]; exact Nat.ne_of_lt (blk_lt (g := gb139) (o := .cells #[.int .i64 a1_0, .int .i64 a1_1, .int .i64 a1_2, .int .i64 a1_3, .slice (some adz1) l1_4.length c1_4] 24 (0, 0)) (qb_ BK139.out)) : gb139 ≠ gbz1)); have n6_ := Aside0.mk ((by rw [hg]; exact Nat.ne_of_gt (blk_lt (g := gb139) (o := .cells #[.int .i64 a1_0, .int .i64 a1_1, .int .i64 a1_2, .int .i64 a1_3, .slice (some adz1) l1_4.length c1_4] 24 (0, 0)) (qb_ BK139.out)) : gbz1 ≠ gb139)); clear BK139; clear HB; have BK139 := n0_; have HB := n1_; have BKz1 := n2_; have GWz1 := n3_; have GEz1 := n4_; have NBz1 := n5_; have NBz2 := n6_; clear n0_ n1_ n2_ n3_ n4_ n5_ n6_; clear hb hbox hg; have hnbz1 := NBz2.out; have hncz1 := NBz1.out; have hczz1 : wz2.cell? ⟨gbz1, 0, none⟩ = some (.int .i64 0) := (blk_cell BKz1.out 0).trans rfl; have hczz2 : wz2.cell? ⟨gbz1, 1, none⟩ = some (.string (⟨#[]⟩ : ByteArray)) := (blk_cell BKz1.out 1).trans rfl; have hczz3 : wz2.cell? ⟨gbz1, 2, none⟩ = some (.string (⟨#[]⟩ : ByteArray)) := (blk_cell BKz1.out 2).trans rfl; have hczz4 : wz2.cell? ⟨gbz1, 3, none⟩ = some (.int .i64 0) := (blk_cell BKz1.out 3).trans rfl; have hfzz1 := blk_frozen BKz1.out 0; have hfzz2 := blk_frozen BKz1.out 1; have hfzz3 := blk_frozen BKz1.out 2; have hfzz4 := blk_frozen BKz1.out 3) | ((with_reducible refine gate_callee (f := 22) rfl ?_); refine goesL_ (some 42) rfl rfl Try.func22 (by kernel_rfl) rfl #[.slice A0 l0.length c0, .int .i64 tv4] rfl qm_ ?_; (with_reducible refine (arena_Low.calls _ _ l0 tv4 tv6 tv7 _ ?side1 ?side2 Av4.out).mono ?_); (case side1 => exact Kd.C_below HR0.out (qg2_ GE139.out GEz1.out)); (case side2 => exact HC0.out); rintro e wz3 ⟨rfl, hb⟩; refine ⟨_, rfl, ?_⟩; have n0_ := Aside0.mk (blk_below (g := gb139) (o := .cells #[.int .i64 a1_0, .int .i64 a1_1, .int .i64 a1_2, .int .i64 a1_3, .slice (some adz1) l1_4.length c1_4] 24 (0, 0)) (by (with_reducible repeat (first | refine blk_drewN ?_ _ | refine blk_drew ?_ | refine blk_alloc ?_ _)); refine blk_far ?_ NBz1.out _; (with_reducible repeat (first | refine blk_drewN ?_ _ | refine blk_drew ?_ | refine blk_alloc ?_ _)); refine blk_far ?_ NBz1.out _; (with_reducible repeat (first | refine blk_drewN ?_ _ | refine blk_drew ?_ | refine blk_alloc ?_ _)); refine blk_far ?_ NBz1.out _; (with_reducible repeat (first | refine blk_drewN ?_ _ | refine blk_drew ?_ | refine blk_alloc ?_ _)); refine blk_far ?_ NBz1.out _; (with_reducible repeat (first | refine blk_drewN ?_ _ | refine blk_drew ?_ | refine blk_alloc ?_ _)); exact BK139.out) hb); have n1_ := Aside0.mk (blk_below (g := gbz1) (o := .cells #[.int .i64 tv1, .string tv2, .string tv3, .int .i64 tv4] 62 (0, 0)) (by (with_reducible repeat (first | refine blk_drewN ?_ _ | refine blk_drew ?_ | refine blk_alloc ?_ _)); refine blk_put (cs := #[.int .i64 tv1, .string tv2, .string tv3, .int .i64 0]) ?_ 3 _ rfl; (with_reducible repeat (first | refine blk_drewN ?_ _ | refine blk_drew ?_ | refine blk_alloc ?_ _)); refine blk_put (cs := #[.int .i64 tv1, .string tv2, .string (⟨#[]⟩ : ByteArray), .int .i64 0]) ?_ 2 _ rfl; (with_reducible repeat (first | refine blk_drewN ?_ _ | refine blk_drew ?_ | refine blk_alloc ?_ _)); refine blk_put (cs := #[.int .i64 tv1, .string (⟨#[]⟩ : ByteArray), .string (⟨#[]⟩ : ByteArray), .int .i64 0]) ?_ 1 _ rfl; (with_reducible repeat (first | refine blk_drewN ?_ _ | refine blk_drew ?_ | refine blk_alloc ?_ _)); refine blk_put (cs := #[.int .i64 0, .string (⟨#[]⟩ : ByteArray), .string (⟨#[]⟩ : ByteArray), .int .i64 0]) ?_ 0 _ rfl; (with_reducible repeat (first | refine blk_drewN ?_ _ | refine blk_drew ?_ | refine blk_alloc ?_ _)); exact BKz1.out) hb); have n2_ := Aside0.mk (below_step (qg2_ GE139.out GEz1.out) hb); clear BK139; clear BKz1; clear HB; have BK139 := n0_; have BKz1 := n1_; have HB := n2_; clear n0_ n1_ n2_; (try clear hb); (try clear hb2); (try clear hk); (try clear hi); have hczz5 : wz3.cell? ⟨gbz1, 0, none⟩ = some (.int .i64 tv1) := (blk_cell BKz1.out 0).trans rfl; have hczz6 : wz3.cell? ⟨gbz1, 1, none⟩ = some (.string tv2) := (blk_cell BKz1.out 1).trans rfl; have hczz7 : wz3.cell? ⟨gbz1, 2, none⟩ = some (.string tv3) := (blk_cell BKz1.out 2).trans rfl; have hczz8 : wz3.cell? ⟨gbz1, 3, none⟩ = some (.int .i64 tv4) := (blk_cell BKz1.out 3).trans rfl; have hfzz5 := blk_frozen BKz1.out 0; have hfzz6 := blk_frozen BKz1.out 1; have hfzz7 := blk_frozen BKz1.out 2; have hfzz8 := blk_frozen BKz1.out 3; have hczz9 : wz3.cell? ⟨gb139, 0, none⟩ = some (.int .i64 a1_0) := (blk_cell BK139.out 0).trans rfl; have hczz10 : wz3.cell? ⟨gb139, 1, none⟩ = some (.int .i64 a1_1) := (blk_cell BK139.out 1).trans rfl; have hczz11 : wz3.cell? ⟨gb139, 2, none⟩ = some (.int .i64 a1_2) := (blk_cell BK139.out 2).trans rfl; have hczz12 : wz3.cell? ⟨gb139, 3, none⟩ = some (.int .i64 a1_3) := (blk_cell BK139.out 3).trans rfl; have hczz13 : wz3.cell? ⟨gb139, 4, none⟩ = some (.slice (some adz1) l1_4.length c1_4) := (blk_cell BK139.out 4).trans rfl; have hfzz9 := blk_frozen BK139.out 0; have hfzz10 := blk_frozen BK139.out 1; have hfzz11 := blk_frozen BK139.out 2; have hfzz12 := blk_frozen BK139.out 3; have hfzz13 := blk_frozen BK139.out 4) | (go_at_call 55; (with_reducible refine (slices_Contains_int_int.calls _ _ l3 tv4 true _ ?side1 ?side2 Av6.out).mono ?_); (case side1 => repeat (first | exact (Kd.C_below HR3.out HB.out) | (with_reducible refine Kd.C_alloc ?_ _) | (with_reducible refine Kd.C_drewN ?_ _) | (with_reducible refine Kd.C_drew ?_))); (case side2 => exact HC3.out); rintro e wz4 ⟨rfl, hb⟩; have n0_ := Aside0.mk (blk_below (g := gb139) (o := .cells #[.int .i64 a1_0, .int .i64 a1_1, .int .i64 a1_2, .int .i64 a1_3, .slice (some adz1) l1_4.length c1_4] 24 (0, 0)) (qb_ BK139.out) hb); have n1_ := Aside0.mk (blk_below (g := gbz1) (o := .cells #[.int .i64 tv1, .string tv2, .string tv3, .int .i64 tv4] 62 (0, 0)) (qb_ BKz1.out) hb); have n2_ := Aside0.mk (below_step (qg2_ GE139.out GEz1.out) hb); clear BK139; clear BKz1; clear HB; have BK139 := n0_; have BKz1 := n1_; have HB := n2_; clear n0_ n1_ n2_; (try clear hb); (try clear hb2); (try clear hk); (try clear hi); have hczz14 : wz4.cell? ⟨gbz1, 0, none⟩ = some (.int .i64 tv1) := (blk_cell BKz1.out 0).trans rfl; have hczz15 : wz4.cell? ⟨gbz1, 1, none⟩ = some (.string tv2) := (blk_cell BKz1.out 1).trans rfl; have hczz16 : wz4.cell? ⟨gbz1, 2, none⟩ = some (.string tv3) := (blk_cell BKz1.out 2).trans rfl; have hczz17 : wz4.cell? ⟨gbz1, 3, none⟩ = some (.int .i64 tv4) := (blk_cell BKz1.out 3).trans rfl; have hfzz14 := blk_frozen BKz1.out 0; have hfzz15 := blk_frozen BKz1.out 1; have hfzz16 := blk_frozen BKz1.out 2; have hfzz17 := blk_frozen BKz1.out 3))
        go_roundg k1
        case measure => have := HK1.out; omega
        case rel => exact ⟨(tv2), (wrap64 (x27_1 + 1)), (by first | rfl | (simp; done) | (simp [*]; done)), (by first | rfl | (simp; done) | (simp [*]; done)), H', ⟨by have := HK1.out; omega⟩, ⟨by (with_reducible repeat (first | refine blk_drewN ?_ _ | refine blk_drew ?_ | refine blk_alloc ?_ _)); exact BK139.out⟩, ⟨by repeat (first | (with_reducible first | exact HB.out | apply below_alloc | apply pw_below_drewN | apply below_drew1 | refine below_set ?_ GE139.out | refine below_set ?_ GEz1.out) | exact HB.out)⟩⟩)
     | (clear hq8
        have Hz1 : (some false) = some r := by rw [if_neg (show ¬ (false = true) by decide)] at H; exact H
        clear H
        have H := Hz1
        clear Hz1
        obtain rfl := Option.some.inj H
        have pz1 : 0 ≤ (x27_1 : Int) := of_decide_eq_true (by first | (with_reducible assumption) | assumption)
        have qz1 : x27_1 < (l1_4.length : Int) := of_decide_eq_true (by first | (with_reducible assumption) | assumption)
        obtain ⟨adz1, ez1, hxz1⟩ := Kd.at_int HR1_4.out x27_1 pz1 qz1
        cases ez1
        replace hxz1 := kc_ HB.out hxz1
        replace pz1 := eq_true pz1
        replace qz1 := eq_true qz1
        go_wp2_with (first | ((with_reducible refine gate_callee (f := 44) rfl ?_); refine goesL_ (some 35) rfl rfl Try.func44 (by kernel_rfl) rfl #[.slice A0 l0.length c0, .int .i64 (rd l1_4 x27_1)] rfl qm_ ?_; (with_reducible refine (rec_Read.calls _ _ l0 (rd l1_4 x27_1) tv1 tv2 tv3 tv4 tv5 _ ?side1 ?side2 Av2.out).mono ?_); (case side1 => repeat (first | exact (Kd.C_below HR0.out HB.out) | (with_reducible refine Kd.C_alloc ?_ _) | (with_reducible refine Kd.C_drewN ?_ _) | (with_reducible refine Kd.C_drew ?_))); (case side2 => exact HC0.out); rintro e wz1 ⟨rfl, hb⟩; refine ⟨_, rfl, ?_⟩; have n0_ := Aside0.mk (blk_below (g := gb139) (o := .cells #[.int .i64 a1_0, .int .i64 a1_1, .int .i64 a1_2, .int .i64 a1_3, .slice (some adz1) l1_4.length c1_4] 24 (0, 0)) (qb_ BK139.out) hb); have n1_ := Aside0.mk (below_step (qg1_ GE139.out) hb); clear BK139; clear HB; have BK139 := n0_; have HB := n1_; clear n0_ n1_; (try clear hb); (try clear hb2); (try clear hk); (try clear hi)) | ((with_reducible refine gate_dst (N := 13) rfl ?_); refine box_event ?hg (N := 13) ?hd (cs := #[.int .i64 0, .string (⟨#[]⟩ : ByteArray), .string (⟨#[]⟩ : ByteArray), .int .i64 0]) (t := 62) ?hr ?_; (case hd => rfl); (case hg => rfl); (case hr => first | (go_simp; done) | (go_simp; rfl)); intro gbz1 hg wz2 hbox hb; have n0_ := Aside0.mk (blk_below (g := gb139) (o := .cells #[.int .i64 a1_0, .int .i64 a1_1, .int .i64 a1_2, .int .i64 a1_3, .slice (some adz1) l1_4.length c1_4] 24 (0, 0)) (qb_ BK139.out) hb); have n1_ := Aside0.mk (below_step (qg1_ GE139.out) hb); have n2_ := Aside0.mk (hbox); have n3_ := Aside0.mk ((by rw [hg]; exact (below_size (qg1_ GE139.out)) : w.heap.size ≤ gbz1)); have n4_ := Aside0.mk ((by rw [hg]; exact (below_size (qg1_ GE139.out)) : w.heap.size ≤ gbz1)); have n5_ := Aside0.mk ((by rw [hg]; exact Nat.ne_of_lt (blk_lt (g := gb139) (o := .cells #[.int .i64 a1_0, .int .i64 a1_1, .int .i64 a1_2, .int .i64 a1_3, .slice (some adz1) l1_4.length c1_4] 24 (0, 0)) (qb_ BK139.out)) : gb139 ≠ gbz1)); have n6_ := Aside0.mk ((by rw [hg]; exact Nat.ne_of_gt (blk_lt (g := gb139) (o := .cells #[.int .i64 a1_0, .int .i64 a1_1, .int .i64 a1_2, .int .i64 a1_3, .slice (some adz1) l1_4.length c1_4] 24 (0, 0)) (qb_ BK139.out)) : gbz1 ≠ gb139)); clear BK139; clear HB; have BK139 := n0_; have HB := n1_; have BKz1 := n2_; have GWz1 := n3_; have GEz1 := n4_; have NBz1 := n5_; have NBz2 := n6_; clear n0_ n1_ n2_ n3_ n4_ n5_ n6_; clear hb hbox hg; have hnbz1 := NBz2.out; have hncz1 := NBz1.out; have hczz1 : wz2.cell? ⟨gbz1, 0, none⟩ = some (.int .i64 0) := (blk_cell BKz1.out 0).trans rfl; have hczz2 : wz2.cell? ⟨gbz1, 1, none⟩ = some (.string (⟨#[]⟩ : ByteArray)) := (blk_cell BKz1.out 1).trans rfl; have hczz3 : wz2.cell? ⟨gbz1, 2, none⟩ = some (.string (⟨#[]⟩ : ByteArray)) := (blk_cell BKz1.out 2).trans rfl; have hczz4 : wz2.cell? ⟨gbz1, 3, none⟩ = some (.int .i64 0) := (blk_cell BKz1.out 3).trans rfl; have hfzz1 := blk_frozen BKz1.out 0; have hfzz2 := blk_frozen BKz1.out 1; have hfzz3 := blk_frozen BKz1.out 2; have hfzz4 := blk_frozen BKz1.out 3) | ((with_reducible refine gate_callee (f := 22) rfl ?_); refine goesL_ (some 42) rfl rfl Try.func22 (by kernel_rfl) rfl #[.slice A0 l0.length c0, .int .i64 tv4] rfl qm_ ?_; (with_reducible refine (arena_Low.calls _ _ l0 tv4 tv6 tv7 _ ?side1 ?side2 Av4.out).mono ?_); (case side1 => exact Kd.C_below HR0.out (qg2_ GE139.out GEz1.out)); (case side2 => exact HC0.out); rintro e wz3 ⟨rfl, hb⟩; refine ⟨_, rfl, ?_⟩; have n0_ := Aside0.mk (blk_below (g := gb139) (o := .cells #[.int .i64 a1_0, .int .i64 a1_1, .int .i64 a1_2, .int .i64 a1_3, .slice (some adz1) l1_4.length c1_4] 24 (0, 0)) (by (with_reducible repeat (first | refine blk_drewN ?_ _ | refine blk_drew ?_ | refine blk_alloc ?_ _)); refine blk_far ?_ NBz1.out _; (with_reducible repeat (first | refine blk_drewN ?_ _ | refine blk_drew ?_ | refine blk_alloc ?_ _)); refine blk_far ?_ NBz1.out _; (with_reducible repeat (first | refine blk_drewN ?_ _ | refine blk_drew ?_ | refine blk_alloc ?_ _)); refine blk_far ?_ NBz1.out _; (with_reducible repeat (first | refine blk_drewN ?_ _ | refine blk_drew ?_ | refine blk_alloc ?_ _)); refine blk_far ?_ NBz1.out _; (with_reducible repeat (first | refine blk_drewN ?_ _ | refine blk_drew ?_ | refine blk_alloc ?_ _)); exact BK139.out) hb); have n1_ := Aside0.mk (blk_below (g := gbz1) (o := .cells #[.int .i64 tv1, .string tv2, .string tv3, .int .i64 tv4] 62 (0, 0)) (by (with_reducible repeat (first | refine blk_drewN ?_ _ | refine blk_drew ?_ | refine blk_alloc ?_ _)); refine blk_put (cs := #[.int .i64 tv1, .string tv2, .string tv3, .int .i64 0]) ?_ 3 _ rfl; (with_reducible repeat (first | refine blk_drewN ?_ _ | refine blk_drew ?_ | refine blk_alloc ?_ _)); refine blk_put (cs := #[.int .i64 tv1, .string tv2, .string (⟨#[]⟩ : ByteArray), .int .i64 0]) ?_ 2 _ rfl; (with_reducible repeat (first | refine blk_drewN ?_ _ | refine blk_drew ?_ | refine blk_alloc ?_ _)); refine blk_put (cs := #[.int .i64 tv1, .string (⟨#[]⟩ : ByteArray), .string (⟨#[]⟩ : ByteArray), .int .i64 0]) ?_ 1 _ rfl; (with_reducible repeat (first | refine blk_drewN ?_ _ | refine blk_drew ?_ | refine blk_alloc ?_ _)); refine blk_put (cs := #[.int .i64 0, .string (⟨#[]⟩ : ByteArray), .string (⟨#[]⟩ : ByteArray), .int .i64 0]) ?_ 0 _ rfl; (with_reducible repeat (first | refine blk_drewN ?_ _ | refine blk_drew ?_ | refine blk_alloc ?_ _)); exact BKz1.out) hb); have n2_ := Aside0.mk (below_step (qg2_ GE139.out GEz1.out) hb); clear BK139; clear BKz1; clear HB; have BK139 := n0_; have BKz1 := n1_; have HB := n2_; clear n0_ n1_ n2_; (try clear hb); (try clear hb2); (try clear hk); (try clear hi); have hczz5 : wz3.cell? ⟨gbz1, 0, none⟩ = some (.int .i64 tv1) := (blk_cell BKz1.out 0).trans rfl; have hczz6 : wz3.cell? ⟨gbz1, 1, none⟩ = some (.string tv2) := (blk_cell BKz1.out 1).trans rfl; have hczz7 : wz3.cell? ⟨gbz1, 2, none⟩ = some (.string tv3) := (blk_cell BKz1.out 2).trans rfl; have hczz8 : wz3.cell? ⟨gbz1, 3, none⟩ = some (.int .i64 tv4) := (blk_cell BKz1.out 3).trans rfl; have hfzz5 := blk_frozen BKz1.out 0; have hfzz6 := blk_frozen BKz1.out 1; have hfzz7 := blk_frozen BKz1.out 2; have hfzz8 := blk_frozen BKz1.out 3; have hczz9 : wz3.cell? ⟨gb139, 0, none⟩ = some (.int .i64 a1_0) := (blk_cell BK139.out 0).trans rfl; have hczz10 : wz3.cell? ⟨gb139, 1, none⟩ = some (.int .i64 a1_1) := (blk_cell BK139.out 1).trans rfl; have hczz11 : wz3.cell? ⟨gb139, 2, none⟩ = some (.int .i64 a1_2) := (blk_cell BK139.out 2).trans rfl; have hczz12 : wz3.cell? ⟨gb139, 3, none⟩ = some (.int .i64 a1_3) := (blk_cell BK139.out 3).trans rfl; have hczz13 : wz3.cell? ⟨gb139, 4, none⟩ = some (.slice (some adz1) l1_4.length c1_4) := (blk_cell BK139.out 4).trans rfl; have hfzz9 := blk_frozen BK139.out 0; have hfzz10 := blk_frozen BK139.out 1; have hfzz11 := blk_frozen BK139.out 2; have hfzz12 := blk_frozen BK139.out 3; have hfzz13 := blk_frozen BK139.out 4) | (go_at_call 55; (with_reducible refine (slices_Contains_int_int.calls _ _ l3 tv4 false _ ?side1 ?side2 Av6.out).mono ?_); (case side1 => repeat (first | exact (Kd.C_below HR3.out HB.out) | (with_reducible refine Kd.C_alloc ?_ _) | (with_reducible refine Kd.C_drewN ?_ _) | (with_reducible refine Kd.C_drew ?_))); (case side2 => exact HC3.out); rintro e wz4 ⟨rfl, hb⟩; have n0_ := Aside0.mk (blk_below (g := gb139) (o := .cells #[.int .i64 a1_0, .int .i64 a1_1, .int .i64 a1_2, .int .i64 a1_3, .slice (some adz1) l1_4.length c1_4] 24 (0, 0)) (qb_ BK139.out) hb); have n1_ := Aside0.mk (blk_below (g := gbz1) (o := .cells #[.int .i64 tv1, .string tv2, .string tv3, .int .i64 tv4] 62 (0, 0)) (qb_ BKz1.out) hb); have n2_ := Aside0.mk (below_step (qg2_ GE139.out GEz1.out) hb); clear BK139; clear BKz1; clear HB; have BK139 := n0_; have BKz1 := n1_; have HB := n2_; clear n0_ n1_ n2_; (try clear hb); (try clear hb2); (try clear hk); (try clear hi)))
        go_ret
        exact ⟨qe_, by repeat (first | (with_reducible first | exact HB.out | apply below_alloc | apply pw_below_drewN | apply below_drew1 | refine below_set ?_ GE139.out | refine below_set ?_ GEz1.out) | exact HB.out)⟩)
     | (clear hq9
        go_ret
        exact ⟨qe_, by repeat (first | (with_reducible first | exact HB.out | apply below_alloc | apply pw_below_drewN | apply below_drew1 | refine below_set ?_ GE139.out | refine below_set ?_ GEv1.out) | exact HB.out)⟩)
     | (exfalso; have A_ := of_decide_eq_true (by assumption : decide ((0 : Int) < x27_1) = true); have B_ := beq_iff_eq.mp (by assumption : (x27_1 == (0 : Int)) = true); omega)
   all_goals (exfalso; have A_ := of_decide_eq_true (by assumption : decide ((0 : Int) < x27_1) = true); have B_ := beq_iff_eq.mp (by assumption : (x27_1 == (0 : Int)) = true); omega)
end
end Go.Proofs.Ytliaemoomhfcdaa.IS
