/- Written by this session's own program (hprint.py) with the help of the kit's print. Lean checks it. -/
import Derived.Test.YtliaemoomhfcdaaMQ
import Derived.Test.YtliaemoomhfcdaaMB
namespace Go.Proofs.Ytliaemoomhfcdaa.NR
open Go.RowKit Go.Proofs.YtliaemoomhfcdaaW.PrintWords Go.Proofs.YtliaemoomhfcdaaW.PrintLast Go.Proofs.YtliaemoomhfcdaaW.PrintMore
attribute [local go_sem] max2_int min2_int max_two min_two max_three min_three max_four min_four   -- for this text's walks alone
set_option linter.unusedVariables false
set_option linter.unusedSimpArgs false
noncomputable section

/-! ### node_Read: function 21 -/
def node_Read.j0 : Nat → List Int → Int → Bool → Option (Int × Int × Int × Int × List Int × Int)
  | 0, _, _, _ => none
  | k + 1, x0, x1, x18 => if x18 = true then (some (0, 0, 0, 0, ([] : List Int), 1)) else (if 0 ≤ (wrap64 (16 * x1)) then (if (wrap64 (16 * x1)) ≤ (wrap64 (16 * (wrap64 (x1 + 1)))) then (if (wrap64 (16 * (wrap64 (x1 + 1)))) ≤ (x0.length : Int) then (if 0 < (((x0.take ((wrap64 (16 * (wrap64 (x1 + 1)))) : Int).toNat).drop ((wrap64 (16 * x1)) : Int).toNat).length : Int) then (if 1 < (((x0.take ((wrap64 (16 * (wrap64 (x1 + 1)))) : Int).toNat).drop ((wrap64 (16 * x1)) : Int).toNat).length : Int) then (if 2 < (((x0.take ((wrap64 (16 * (wrap64 (x1 + 1)))) : Int).toNat).drop ((wrap64 (16 * x1)) : Int).toNat).length : Int) then ((fast_Slots.f ((x0.take ((wrap64 (16 * (wrap64 (x1 + 1)))) : Int).toNat).drop ((wrap64 (16 * x1)) : Int).toNat) 0).bind fun t109 => ((node_Words.f (Go.bits .and .i64 (rd ((x0.take ((wrap64 (16 * (wrap64 (x1 + 1)))) : Int).toNat).drop ((wrap64 (16 * x1)) : Int).toNat) 0) 15) ((Go.bits .andNot .i64 (rd ((x0.take ((wrap64 (16 * (wrap64 (x1 + 1)))) : Int).toNat).drop ((wrap64 (16 * x1)) : Int).toNat) 0) 1152921504606846976) / 16) (rd ((x0.take ((wrap64 (16 * (wrap64 (x1 + 1)))) : Int).toNat).drop ((wrap64 (16 * x1)) : Int).toNat) 1) (rd ((x0.take ((wrap64 (16 * (wrap64 (x1 + 1)))) : Int).toNat).drop ((wrap64 (16 * x1)) : Int).toNat) 2) t109).bind fun bt113 => (if bt113.2 = 0 then ((slices_Equal_int_int.f k bt113.1 ((x0.take ((wrap64 (16 * (wrap64 (x1 + 1)))) : Int).toNat).drop ((wrap64 (16 * x1)) : Int).toNat)).bind fun t117 => (if t117 = true then (some (Go.bits .and .i64 (rd ((x0.take ((wrap64 (16 * (wrap64 (x1 + 1)))) : Int).toNat).drop ((wrap64 (16 * x1)) : Int).toNat) 0) 15, (Go.bits .andNot .i64 (rd ((x0.take ((wrap64 (16 * (wrap64 (x1 + 1)))) : Int).toNat).drop ((wrap64 (16 * x1)) : Int).toNat) 0) 1152921504606846976) / 16, rd ((x0.take ((wrap64 (16 * (wrap64 (x1 + 1)))) : Int).toNat).drop ((wrap64 (16 * x1)) : Int).toNat) 1, rd ((x0.take ((wrap64 (16 * (wrap64 (x1 + 1)))) : Int).toNat).drop ((wrap64 (16 * x1)) : Int).toNat) 2, t109, 0)) else (some (0, 0, 0, 0, ([] : List Int), 90)))) else (some (0, 0, 0, 0, ([] : List Int), 90))))) else (none)) else (none)) else (none)) else (none)) else (none)) else (none))
def node_Read.f (k : Nat) (l0 : List Int) (a1 : Int) : Option (Int × Int × Int × Int × List Int × Int) := if a1 < 0 then (node_Read.j0 k l0 a1 true) else (node_Read.j0 k l0 a1 (decide (a1 ≥ (wrap64 ((l0.length : Int) / 16)))))
theorem node_Read.mono_l : ∀ k, (∀ y0 y1 y2, LeO (node_Read.j0 k y0 y1 y2) (node_Read.j0 (k + 1) y0 y1 y2))
  | 0 => fun _ _ _ r h => by simp [node_Read.j0] at h
  | k + 1 => by
    have ih0 := node_Read.mono_l k
    · intro y0 y1 y2
      unfold node_Read.j0
      repeat' first
      | (with_reducible exact ih0 _ _ _)
      | (with_reducible exact slices_Equal_int_int.mono _ _ _)
      | (with_reducible exact LeO.refl _)
      | (with_reducible exact LeO.none _)
      | (with_reducible refine LeO.ite ?_ ?_)
      | (with_reducible refine LeO.bind ?_ (fun _ => ?_))
      | exact ih0 _ _ _
      | exact slices_Equal_int_int.mono _ _ _
      | exact LeO.none _
      | refine LeO.ite ?_ ?_
      | refine LeO.bind ?_ (fun _ => ?_)
theorem node_Read.mono : ∀ a0 a1 k, LeO (node_Read.f k a0 a1) (node_Read.f (k + 1) a0 a1) := by
 intro a0 a1 k
 have ih0 := node_Read.mono_l k
 unfold node_Read.f
 repeat' first
     | (with_reducible exact ih0 _ _ _)
     | (with_reducible exact slices_Equal_int_int.mono _ _ _)
     | (with_reducible exact LeO.refl _)
     | (with_reducible exact LeO.none _)
     | (with_reducible refine LeO.ite ?_ ?_)
     | (with_reducible refine LeO.bind ?_ (fun _ => ?_))
     | exact ih0 _ _ _
     | exact slices_Equal_int_int.mono _ _ _
     | exact LeO.none _
     | refine LeO.ite ?_ ?_
     | refine LeO.bind ?_ (fun _ => ?_)
def node_Read.T4 : Bool × List (List Nat × List Nat) := (true, [([], []), ([0], [0]), ([1], [1]), ([2], [2]), ([], []), ([4], [4]), ([5], [5]), ([6], [6]), ([7], [7]), ([], []), ([9], [9]), ([10], [10]), ([], []), ([12], [12]), ([13], [13]), ([], []), ([15], [15]), ([3, 8, 11, 14, 16], [3, 8, 11, 14, 16]), ([], []), ([18, 17, 16, 0, 1, 2, 3, 4, 5, 6, 7, 8, 9, 10, 11, 12, 13, 14, 15, 16, 17, 18], [17, 18])])
def node_Read.B4 : List Nat := [0, 1, 3, 7, 0, 16, 48, 112, 240, 0, 512, 1536, 0, 4096, 12288, 0, 32768, 131071, 0, 524287]
theorem node_Read.tab4 : rtab .any (opsOf Try.f21 4) = node_Read.T4 := by kernel_rfl
theorem node_Read.bits4 : waitsOk node_Read.T4.2 node_Read.B4 = true := by kernel_rfl
set_option maxHeartbeats 8000000 in
set_option maxRecDepth 100000 in
theorem node_Read.calls (k : Nat) (A0 : Option Addr) (c0 : Nat) (l0 : List Int) (a1 : Int) (r1 : Int) (r2 : Int) (r3 : Int) (r4 : Int) (r5 : List Int) (r6 : Int) (w : World) (hr0 : Kd.C (Kd.int .i64) w A0 l0.length l0) (hc0 : l0.length ≤ c0) (h : node_Read.f k l0 a1 = some (r1, r2, r3, r4, r5, r6)) :
    Calls Try.prog 21 #[.slice A0 l0.length c0, .int .i64 a1] w fun e w' => ∃ v4_ : Value, e = .returned (.tuple #[.agg #[.int .i64 r1, .int .i64 r2, .int .i64 r3, .int .i64 r4, v4_], .int .i64 r6]) ∧ Kd.R (Kd.int .i64) 3 w' w.heap.size (fun _ => True) v4_ r5 ∧ Below w.heap.size w w' := by
 have hu24 := Try.underlying24
 have HR0 := Aside0.mk hr0
 have HC0 := Aside0.mk hc0
 clear hr0 hc0
 have HB := Aside0.mk (Below.refl w.heap.size w)
 have H : (if a1 < 0 then (node_Read.j0 k l0 a1 true) else (node_Read.j0 k l0 a1 (decide (a1 ≥ (wrap64 ((l0.length : Int) / 16)))))) = some (r1, r2, r3, r4, r5, r6) := h
 clear h
 have HC3 := Aside0.mk H
 clear H
 go_enter Try.func21, Try.ntmps21
 go_upto_region 1 with (first | ((with_reducible refine gate_dst (N := 4) rfl ?_); (try (refine gate_guard (by rfl) ?_; dsimp only)); refine box_event ?hg (N := 4) ?hd (cs := #[.int .i64 0, .int .i64 0, .int .i64 0, .int .i64 0, .slice none 0 0]) (t := 24) ?hr ?_; (case hd => rfl); (case hg => rfl); (case hr => first | (go_simp; done) | (go_simp; rfl)); intro gb103 hg w4 hbox hb; have n0_ := Aside0.mk (below_step qh_ hb); have n1_ := Aside0.mk (hbox); have n2_ := Aside0.mk ((by rw [hg]; exact (below_size qh_) : w.heap.size ≤ gb103)); have n3_ := Aside0.mk ((by rw [hg]; exact (below_size qh_) : w.heap.size ≤ gb103)); clear HB; have HB := n0_; have BK103 := n1_; have GW103 := n2_; have GE103 := n3_; clear n0_ n1_ n2_ n3_; clear hb hbox hg))
 (try simp only [Act.put, List.setIfInBounds_toArray, List.set_cons_zero, List.set_cons_succ])
 go_cut [18] (fun v18 wc => ∃ (kq : Nat) (x18_2 : Bool), v18 = .bool x18_2 ∧ Aside0 (node_Read.j0 kq l0 a1 x18_2 = some (r1, r2, r3, r4, r5, r6)) ∧ Aside0 (kq ≤ k) ∧ Aside0 (wc.heap[gb103]? = some (.cells #[.int .i64 0, .int .i64 0, .int .i64 0, .int .i64 0, (.slice none 0 0)] 24 (0, 0))) ∧ Aside0 (Below w.heap.size w wc))
 case first =>
  have H := HC3.out
  clear HC3
  by_cases c5 : a1 < 0
  · rw [if_pos c5] at H
    have c5b0 : decide (a1 < 0) = true := decide_eq_true c5
    clear c5
    (first | rw [c5b0] | (simp only [i64_w, i32_w]; rw [c5b0]) | skip)
    have H' := Aside0.mk H
    clear H
    go_wp2
    go_meet
    case rel => exact ⟨_, (true), (by first | rfl | (simp; done) | (simp [*]; done)), H', ⟨by first | omega | exact Nat.le_refl _⟩, ⟨by (with_reducible repeat (first | refine blk_drewN ?_ _ | refine blk_drew ?_ | refine blk_alloc ?_ _)); exact BK103.out⟩, ⟨by repeat (first | (with_reducible first | exact HB.out | apply below_alloc | apply pw_below_drewN | apply below_drew1 | refine below_set ?_ GE103.out) | exact HB.out)⟩⟩
  rw [if_neg c5] at H
  have c5b0 : decide (a1 < 0) = false := decide_eq_false c5
  clear c5
  (first | rw [c5b0] | (simp only [i64_w, i32_w]; rw [c5b0]) | skip)
  have H' := Aside0.mk H
  clear H
  go_wp2
  go_meet
  case rel => exact ⟨_, (decide (a1 ≥ (wrap64 ((l0.length : Int) / 16)))), (by first | rfl | (simp; done) | (simp [*]; done)), H', ⟨by first | omega | exact Nat.le_refl _⟩, ⟨by (with_reducible repeat (first | refine blk_drewN ?_ _ | refine blk_drew ?_ | refine blk_alloc ?_ _)); exact BK103.out⟩, ⟨by repeat (first | (with_reducible first | exact HB.out | apply below_alloc | apply pw_below_drewN | apply below_drew1 | refine below_set ?_ GE103.out) | exact HB.out)⟩⟩
 case rest =>
  clear HC3
  try clear c2
  try clear p2
  try clear c5
  try clear c5b0
  obtain ⟨kq, x18_2, rfl, HA, HJ2, BK103, HB⟩ := hcut
  cases kq with
  | zero => exact absurd HA.out (by simp [node_Read.j0])
  | succ kj2 =>
   have H := HA.out
   clear HA
   simp only [node_Read.j0] at H
   by_cases c6 : x18_2 = true
   · subst c6
     have H1 : (some (0, 0, 0, 0, ([] : List Int), 1)) = some (r1, r2, r3, r4, r5, r6) := by rw [if_pos rfl] at H; exact H
     clear H
     have H := H1
     clear H1
     simp only [Option.some.injEq, Prod.mk.injEq] at H
     obtain ⟨rfl, rfl, rfl, rfl, rfl, rfl⟩ := H
     have hcz7_0 : wc.cell? ⟨gb103, 0, none⟩ = some (.int .i64 0) := (blk_cell BK103.out 0).trans rfl
     have hcz7_1 : wc.cell? ⟨gb103, 1, none⟩ = some (.int .i64 0) := (blk_cell BK103.out 1).trans rfl
     have hcz7_2 : wc.cell? ⟨gb103, 2, none⟩ = some (.int .i64 0) := (blk_cell BK103.out 2).trans rfl
     have hcz7_3 : wc.cell? ⟨gb103, 3, none⟩ = some (.int .i64 0) := (blk_cell BK103.out 3).trans rfl
     have hcz7_4 : wc.cell? ⟨gb103, 4, none⟩ = some (.slice none 0 0) := (blk_cell BK103.out 4).trans rfl
     have hfz7_0 := blk_frozen BK103.out 0
     have hfz7_1 := blk_frozen BK103.out 1
     have hfz7_2 := blk_frozen BK103.out 2
     have hfz7_3 := blk_frozen BK103.out 3
     have hfz7_4 := blk_frozen BK103.out 4
     go_wp2
     refine bodyPost_ret (results_ct rfl _ _ gb103 24 #[.int .i64 0, .int .i64 0, .int .i64 0, .int .i64 0, .slice none 0 0] (0, 0) _ rfl (by (with_reducible repeat (first | refine blk_drewN ?_ _ | refine blk_drew ?_ | refine blk_alloc ?_ _)); refine blk_put (cs := #[.int .i64 0, .int .i64 0, .int .i64 0, .int .i64 0, .slice none 0 0]) ?_ 4 _ rfl; (with_reducible repeat (first | refine blk_drewN ?_ _ | refine blk_drew ?_ | refine blk_alloc ?_ _)); refine blk_put (cs := #[.int .i64 0, .int .i64 0, .int .i64 0, .int .i64 0, .slice none 0 0]) ?_ 3 _ rfl; (with_reducible repeat (first | refine blk_drewN ?_ _ | refine blk_drew ?_ | refine blk_alloc ?_ _)); refine blk_put (cs := #[.int .i64 0, .int .i64 0, .int .i64 0, .int .i64 0, .slice none 0 0]) ?_ 2 _ rfl; (with_reducible repeat (first | refine blk_drewN ?_ _ | refine blk_drew ?_ | refine blk_alloc ?_ _)); refine blk_put (cs := #[.int .i64 0, .int .i64 0, .int .i64 0, .int .i64 0, .slice none 0 0]) ?_ 1 _ rfl; (with_reducible repeat (first | refine blk_drewN ?_ _ | refine blk_drew ?_ | refine blk_alloc ?_ _)); refine blk_put (cs := #[.int .i64 0, .int .i64 0, .int .i64 0, .int .i64 0, .slice none 0 0]) ?_ 0 _ rfl; (with_reducible repeat (first | refine blk_drewN ?_ _ | refine blk_drew ?_ | refine blk_alloc ?_ _)); exact BK103.out) Try.underlying24 rfl (by kernel_rfl)) rfl ?_
     exact ⟨_, qe_, by first | exact Kd.R_nil _ _ _ _ _ | exact Kd.N_nil _ _ _ _ _ | exact Kd.V_nil _ _ _ _ _ | exact Kd.Q_nil _ _ _ _ _ | exact Kd.S_nil _ _ _ _ _, by repeat (first | (with_reducible first | exact HB.out | apply below_alloc | apply pw_below_drewN | apply below_drew1 | refine below_set ?_ GE103.out) | exact HB.out)⟩
   replace c6 := Bool.eq_false_iff.mpr c6
   subst c6
   have H1 : (if 0 ≤ (wrap64 (16 * a1)) then (if (wrap64 (16 * a1)) ≤ (wrap64 (16 * (wrap64 (a1 + 1)))) then (if (wrap64 (16 * (wrap64 (a1 + 1)))) ≤ (l0.length : Int) then (if 0 < (((l0.take ((wrap64 (16 * (wrap64 (a1 + 1)))) : Int).toNat).drop ((wrap64 (16 * a1)) : Int).toNat).length : Int) then (if 1 < (((l0.take ((wrap64 (16 * (wrap64 (a1 + 1)))) : Int).toNat).drop ((wrap64 (16 * a1)) : Int).toNat).length : Int) then (if 2 < (((l0.take ((wrap64 (16 * (wrap64 (a1 + 1)))) : Int).toNat).drop ((wrap64 (16 * a1)) : Int).toNat).length : Int) then ((fast_Slots.f ((l0.take ((wrap64 (16 * (wrap64 (a1 + 1)))) : Int).toNat).drop ((wrap64 (16 * a1)) : Int).toNat) 0).bind fun t109 => ((node_Words.f (Go.bits .and .i64 (rd ((l0.take ((wrap64 (16 * (wrap64 (a1 + 1)))) : Int).toNat).drop ((wrap64 (16 * a1)) : Int).toNat) 0) 15) ((Go.bits .andNot .i64 (rd ((l0.take ((wrap64 (16 * (wrap64 (a1 + 1)))) : Int).toNat).drop ((wrap64 (16 * a1)) : Int).toNat) 0) 1152921504606846976) / 16) (rd ((l0.take ((wrap64 (16 * (wrap64 (a1 + 1)))) : Int).toNat).drop ((wrap64 (16 * a1)) : Int).toNat) 1) (rd ((l0.take ((wrap64 (16 * (wrap64 (a1 + 1)))) : Int).toNat).drop ((wrap64 (16 * a1)) : Int).toNat) 2) t109).bind fun bt113 => (if bt113.2 = 0 then ((slices_Equal_int_int.f kj2 bt113.1 ((l0.take ((wrap64 (16 * (wrap64 (a1 + 1)))) : Int).toNat).drop ((wrap64 (16 * a1)) : Int).toNat)).bind fun t117 => (if t117 = true then (some (Go.bits .and .i64 (rd ((l0.take ((wrap64 (16 * (wrap64 (a1 + 1)))) : Int).toNat).drop ((wrap64 (16 * a1)) : Int).toNat) 0) 15, (Go.bits .andNot .i64 (rd ((l0.take ((wrap64 (16 * (wrap64 (a1 + 1)))) : Int).toNat).drop ((wrap64 (16 * a1)) : Int).toNat) 0) 1152921504606846976) / 16, rd ((l0.take ((wrap64 (16 * (wrap64 (a1 + 1)))) : Int).toNat).drop ((wrap64 (16 * a1)) : Int).toNat) 1, rd ((l0.take ((wrap64 (16 * (wrap64 (a1 + 1)))) : Int).toNat).drop ((wrap64 (16 * a1)) : Int).toNat) 2, t109, 0)) else (some (0, 0, 0, 0, ([] : List Int), 90)))) else (some (0, 0, 0, 0, ([] : List Int), 90))))) else (none)) else (none)) else (none)) else (none)) else (none)) else (none)) = some (r1, r2, r3, r4, r5, r6) := by rw [if_neg (show ¬ (false = true) by decide)] at H; exact H
   clear H
   have H := H1
   clear H1
   obtain ⟨ji8, hji8⟩ : ∃ j_ : Int, (wrap64 (16 * a1)) = j_ := ⟨_, rfl⟩
   replace H : (if 0 ≤ (ji8) then (if (ji8) ≤ (wrap64 (16 * (wrap64 (a1 + 1)))) then (if (wrap64 (16 * (wrap64 (a1 + 1)))) ≤ (l0.length : Int) then (if 0 < (((l0.take ((wrap64 (16 * (wrap64 (a1 + 1)))) : Int).toNat).drop ((ji8) : Int).toNat).length : Int) then (if 1 < (((l0.take ((wrap64 (16 * (wrap64 (a1 + 1)))) : Int).toNat).drop ((ji8) : Int).toNat).length : Int) then (if 2 < (((l0.take ((wrap64 (16 * (wrap64 (a1 + 1)))) : Int).toNat).drop ((ji8) : Int).toNat).length : Int) then ((fast_Slots.f ((l0.take ((wrap64 (16 * (wrap64 (a1 + 1)))) : Int).toNat).drop ((ji8) : Int).toNat) 0).bind fun t109 => ((node_Words.f (Go.bits .and .i64 (rd ((l0.take ((wrap64 (16 * (wrap64 (a1 + 1)))) : Int).toNat).drop ((ji8) : Int).toNat) 0) 15) ((Go.bits .andNot .i64 (rd ((l0.take ((wrap64 (16 * (wrap64 (a1 + 1)))) : Int).toNat).drop ((ji8) : Int).toNat) 0) 1152921504606846976) / 16) (rd ((l0.take ((wrap64 (16 * (wrap64 (a1 + 1)))) : Int).toNat).drop ((ji8) : Int).toNat) 1) (rd ((l0.take ((wrap64 (16 * (wrap64 (a1 + 1)))) : Int).toNat).drop ((ji8) : Int).toNat) 2) t109).bind fun bt113 => (if bt113.2 = 0 then ((slices_Equal_int_int.f kj2 bt113.1 ((l0.take ((wrap64 (16 * (wrap64 (a1 + 1)))) : Int).toNat).drop ((ji8) : Int).toNat)).bind fun t117 => (if t117 = true then (some (Go.bits .and .i64 (rd ((l0.take ((wrap64 (16 * (wrap64 (a1 + 1)))) : Int).toNat).drop ((ji8) : Int).toNat) 0) 15, (Go.bits .andNot .i64 (rd ((l0.take ((wrap64 (16 * (wrap64 (a1 + 1)))) : Int).toNat).drop ((ji8) : Int).toNat) 0) 1152921504606846976) / 16, rd ((l0.take ((wrap64 (16 * (wrap64 (a1 + 1)))) : Int).toNat).drop ((ji8) : Int).toNat) 1, rd ((l0.take ((wrap64 (16 * (wrap64 (a1 + 1)))) : Int).toNat).drop ((ji8) : Int).toNat) 2, t109, 0)) else (some (0, 0, 0, 0, ([] : List Int), 90)))) else (some (0, 0, 0, 0, ([] : List Int), 90))))) else (none)) else (none)) else (none)) else (none)) else (none)) else (none)) = some (r1, r2, r3, r4, r5, r6) := by first | (rw [hji8] at H; exact H) | (simp only [hji8] at H ⊢; exact H)
   have hji8w : (IntKind.i64.wrap (16 * a1)) = ji8 := (i64_w _).trans hji8
   by_cases c9 : 0 ≤ (ji8)
   rotate_left
   · rw [if_neg c9] at H
     exact absurd H (by simp)
   rw [if_pos c9] at H
   have c9b0 := eq_true c9
   have c9b1 : decide (0 ≤ (ji8)) = true := decide_eq_true c9
   clear c9
   by_cases c10 : (ji8) ≤ (wrap64 (16 * (wrap64 (a1 + 1))))
   rotate_left
   · rw [if_neg c10] at H
     exact absurd H (by simp)
   rw [if_pos c10] at H
   have c10b0 := eq_true c10
   have c10b1 : decide ((ji8) ≤ (wrap64 (16 * (wrap64 (a1 + 1))))) = true := decide_eq_true c10
   by_cases c11 : (wrap64 (16 * (wrap64 (a1 + 1)))) ≤ (l0.length : Int)
   rotate_left
   · rw [if_neg c11] at H
     exact absurd H (by simp)
   rw [if_pos c11] at H
   have c11b0 := eq_true c11
   have c11b1 : decide ((wrap64 (16 * (wrap64 (a1 + 1)))) ≤ (l0.length : Int)) = true := decide_eq_true c11
   by_cases c12 : 0 < (((l0.take ((wrap64 (16 * (wrap64 (a1 + 1)))) : Int).toNat).drop ((ji8) : Int).toNat).length : Int)
   rotate_left
   · rw [if_neg c12] at H
     exact absurd H (by simp)
   rw [if_pos c12] at H
   have c12b0 : decide (0 < (((l0.take ((wrap64 (16 * (wrap64 (a1 + 1)))) : Int).toNat).drop ((ji8) : Int).toNat).length : Int)) = true := decide_eq_true c12
   have c12b1 : decide (0 < ((l0.take ((wrap64 (16 * (wrap64 (a1 + 1)))) : Int).toNat).drop ((ji8) : Int).toNat).length) = true := decide_eq_true (by omega)
   clear c12
   by_cases c13 : 1 < (((l0.take ((wrap64 (16 * (wrap64 (a1 + 1)))) : Int).toNat).drop ((ji8) : Int).toNat).length : Int)
   rotate_left
   · rw [if_neg c13] at H
     exact absurd H (by simp)
   rw [if_pos c13] at H
   have c13b0 : decide (1 < (((l0.take ((wrap64 (16 * (wrap64 (a1 + 1)))) : Int).toNat).drop ((ji8) : Int).toNat).length : Int)) = true := decide_eq_true c13
   have c13b1 : decide (1 < ((l0.take ((wrap64 (16 * (wrap64 (a1 + 1)))) : Int).toNat).drop ((ji8) : Int).toNat).length) = true := decide_eq_true (by omega)
   clear c13
   by_cases c14 : 2 < (((l0.take ((wrap64 (16 * (wrap64 (a1 + 1)))) : Int).toNat).drop ((ji8) : Int).toNat).length : Int)
   rotate_left
   · rw [if_neg c14] at H
     exact absurd H (by simp)
   rw [if_pos c14] at H
   have c14b0 : decide (2 < (((l0.take ((wrap64 (16 * (wrap64 (a1 + 1)))) : Int).toNat).drop ((ji8) : Int).toNat).length : Int)) = true := decide_eq_true c14
   have c14b1 : decide (2 < ((l0.take ((wrap64 (16 * (wrap64 (a1 + 1)))) : Int).toNat).drop ((ji8) : Int).toNat).length) = true := decide_eq_true (by omega)
   clear c14
   replace H := Option.bind_eq_some_iff.mp H
   obtain ⟨t109, A150, H⟩ := H
   replace H : ((node_Words.f (Go.bits .and .i64 (rd ((l0.take ((wrap64 (16 * (wrap64 (a1 + 1)))) : Int).toNat).drop ((ji8) : Int).toNat) 0) 15) ((Go.bits .andNot .i64 (rd ((l0.take ((wrap64 (16 * (wrap64 (a1 + 1)))) : Int).toNat).drop ((ji8) : Int).toNat) 0) 1152921504606846976) / 16) (rd ((l0.take ((wrap64 (16 * (wrap64 (a1 + 1)))) : Int).toNat).drop ((ji8) : Int).toNat) 1) (rd ((l0.take ((wrap64 (16 * (wrap64 (a1 + 1)))) : Int).toNat).drop ((ji8) : Int).toNat) 2) t109).bind fun bt113 => (if bt113.2 = 0 then ((slices_Equal_int_int.f kj2 bt113.1 ((l0.take ((wrap64 (16 * (wrap64 (a1 + 1)))) : Int).toNat).drop ((ji8) : Int).toNat)).bind fun t117 => (if t117 = true then (some (Go.bits .and .i64 (rd ((l0.take ((wrap64 (16 * (wrap64 (a1 + 1)))) : Int).toNat).drop ((ji8) : Int).toNat) 0) 15, (Go.bits .andNot .i64 (rd ((l0.take ((wrap64 (16 * (wrap64 (a1 + 1)))) : Int).toNat).drop ((ji8) : Int).toNat) 0) 1152921504606846976) / 16, rd ((l0.take ((wrap64 (16 * (wrap64 (a1 + 1)))) : Int).toNat).drop ((ji8) : Int).toNat) 1, rd ((l0.take ((wrap64 (16 * (wrap64 (a1 + 1)))) : Int).toNat).drop ((ji8) : Int).toNat) 2, t109, 0)) else (some (0, 0, 0, 0, ([] : List Int), 90)))) else (some (0, 0, 0, 0, ([] : List Int), 90)))) = some (r1, r2, r3, r4, r5, r6) := H
   have A15 := Aside0.mk A150
   clear A150
   replace H := Option.bind_eq_some_iff.mp H
   obtain ⟨⟨t113, t116⟩, A160, H⟩ := H
   replace H : (if t116 = 0 then ((slices_Equal_int_int.f kj2 t113 ((l0.take ((wrap64 (16 * (wrap64 (a1 + 1)))) : Int).toNat).drop ((ji8) : Int).toNat)).bind fun t117 => (if t117 = true then (some (Go.bits .and .i64 (rd ((l0.take ((wrap64 (16 * (wrap64 (a1 + 1)))) : Int).toNat).drop ((ji8) : Int).toNat) 0) 15, (Go.bits .andNot .i64 (rd ((l0.take ((wrap64 (16 * (wrap64 (a1 + 1)))) : Int).toNat).drop ((ji8) : Int).toNat) 0) 1152921504606846976) / 16, rd ((l0.take ((wrap64 (16 * (wrap64 (a1 + 1)))) : Int).toNat).drop ((ji8) : Int).toNat) 1, rd ((l0.take ((wrap64 (16 * (wrap64 (a1 + 1)))) : Int).toNat).drop ((ji8) : Int).toNat) 2, t109, 0)) else (some (0, 0, 0, 0, ([] : List Int), 90)))) else (some (0, 0, 0, 0, ([] : List Int), 90))) = some (r1, r2, r3, r4, r5, r6) := H
   have A16 := Aside0.mk A160
   clear A160
   by_cases c17 : t116 = 0
   rotate_left
   · rw [if_neg c17] at H
     have c17b0 : (t116 == 0) = false := beq_eq_false_iff_ne.mpr c17
     have c17b1 : (t116 != 0) = true := bne_iff_ne.mpr c17
     simp only [Option.some.injEq, Prod.mk.injEq] at H
     obtain ⟨rfl, rfl, rfl, rfl, rfl, rfl⟩ := H
     obtain ⟨i055, hi055, _, hsz55, _⟩ := info_parts info3
     obtain ⟨A55, hcut55, hA55, hC55⟩ := print_mid_of (P := Try.prog) (Value.int .i64) 0 22 3 .i64 .i64 Try.underlying22 hi055 hsz55 A0 c0 l0 (ji8) (wrap64 (16 * (wrap64 (a1 + 1)))) (of_decide_eq_true (by first | (with_reducible assumption) | assumption)) (by first | omega | exact of_decide_eq_true (by first | (with_reducible assumption) | assumption)) (of_decide_eq_true (by first | (with_reducible assumption) | assumption)) HC0.out
     have HR104 := Aside0.mk (Kd.C_of_reads (h1 := fun _ => rfl) (hA55 _ (Kd.reads_of_C HR0.out)))
     have HC104 := Aside0.mk hC55
     clear hA55 hC55 hi055 hsz55
     try go_wp2
     have n0_ := Aside0.mk (blk_drew BK103.out)
     have n1_ := Aside0.mk (below_drew1 HB.out)
     clear BK103
     clear HB
     have BK103 := n0_
     have HB := n1_
     clear n0_ n1_
     have p105 : 0 ≤ (0 : Int) := (by omega)
     have q105 : 0 < (((l0.take ((wrap64 (16 * (wrap64 (a1 + 1)))) : Int).toNat).drop ((ji8) : Int).toNat).length : Int) := of_decide_eq_true (by first | (with_reducible assumption) | assumption)
     obtain ⟨ad105, e105, hx105_0⟩ := Kd.at_int HR104.out 0 p105 q105
     have hw105_0 := hx105_0
     (try rw [show ((0 : Int)).toNat = 0 from rfl] at hw105_0)
     (try rw [show 0 * 1 = 0 from rfl] at hw105_0)
     (try rw [Addr.add_zero'] at hw105_0)
     cases e105
     have qi105 : (0 < ((l0.take ((wrap64 (16 * (wrap64 (a1 + 1)))) : Int).toNat).drop ((ji8) : Int).toNat).length) = True := eq_true (by omega)
     (try rw [show ((0 : Int)).toNat = 0 from rfl] at hx105_0)
     (try rw [Addr.add_zero'] at hx105_0)
     replace hx105_0 := kc_ HB.out hx105_0
     replace p105 := eq_true p105
     replace q105 := eq_true q105
     have p106 : 0 ≤ (0 : Int) := (by omega)
     have q106 : 0 < (((l0.take ((wrap64 (16 * (wrap64 (a1 + 1)))) : Int).toNat).drop ((ji8) : Int).toNat).length : Int) := of_decide_eq_true (by first | (with_reducible assumption) | assumption)
     obtain ⟨ad106, e106, hx106_0⟩ := Kd.at_int HR104.out 0 p106 q106
     have hw106_0 := hx106_0
     (try rw [show ((0 : Int)).toNat = 0 from rfl] at hw106_0)
     (try rw [show 0 * 1 = 0 from rfl] at hw106_0)
     (try rw [Addr.add_zero'] at hw106_0)
     obtain rfl : ad105 = ad106 := (by injection e106)
     have qi106 : (0 < ((l0.take ((wrap64 (16 * (wrap64 (a1 + 1)))) : Int).toNat).drop ((ji8) : Int).toNat).length) = True := eq_true (by omega)
     (try rw [show ((0 : Int)).toNat = 0 from rfl] at hx106_0)
     (try rw [Addr.add_zero'] at hx106_0)
     replace hx106_0 := kc_ HB.out hx106_0
     replace p106 := eq_true p106
     replace q106 := eq_true q106
     have p107 : 0 ≤ (1 : Int) := (by omega)
     have q107 : 1 < (((l0.take ((wrap64 (16 * (wrap64 (a1 + 1)))) : Int).toNat).drop ((ji8) : Int).toNat).length : Int) := of_decide_eq_true (by first | (with_reducible assumption) | assumption)
     obtain ⟨ad107, e107, hx107_0⟩ := Kd.at_int HR104.out 1 p107 q107
     have hw107_0 := hx107_0
     (try rw [show ((1 : Int)).toNat = 1 from rfl] at hw107_0)
     (try rw [show 1 * 1 = 1 from rfl] at hw107_0)
     (try simp only [Nat.reduceMul, Nat.reduceEqDiff, Go.Addr.add, ↓reduceIte] at hw107_0)
     obtain rfl : ad105 = ad107 := (by injection e107)
     (try simp only [show (1 : Int).toNat = 1 from rfl, Nat.reduceMul, Nat.reduceEqDiff, Go.Addr.add, ↓reduceIte] at hx107_0)
     have qi107 : (1 < ((l0.take ((wrap64 (16 * (wrap64 (a1 + 1)))) : Int).toNat).drop ((ji8) : Int).toNat).length) = True := eq_true (by omega)
     (try rw [show ((1 : Int)).toNat = 1 from rfl] at hx107_0)
     replace hx107_0 := kc_ HB.out hx107_0
     replace p107 := eq_true p107
     replace q107 := eq_true q107
     have p108 : 0 ≤ (2 : Int) := (by omega)
     have q108 : 2 < (((l0.take ((wrap64 (16 * (wrap64 (a1 + 1)))) : Int).toNat).drop ((ji8) : Int).toNat).length : Int) := of_decide_eq_true (by first | (with_reducible assumption) | assumption)
     obtain ⟨ad108, e108, hx108_0⟩ := Kd.at_int HR104.out 2 p108 q108
     have hw108_0 := hx108_0
     (try rw [show ((2 : Int)).toNat = 2 from rfl] at hw108_0)
     (try rw [show 2 * 1 = 2 from rfl] at hw108_0)
     (try simp only [Nat.reduceMul, Nat.reduceEqDiff, Go.Addr.add, ↓reduceIte] at hw108_0)
     obtain rfl : ad105 = ad108 := (by injection e108)
     (try simp only [show (2 : Int).toNat = 2 from rfl, Nat.reduceMul, Nat.reduceEqDiff, Go.Addr.add, ↓reduceIte] at hx108_0)
     have qi108 : (2 < ((l0.take ((wrap64 (16 * (wrap64 (a1 + 1)))) : Int).toNat).drop ((ji8) : Int).toNat).length) = True := eq_true (by omega)
     (try rw [show ((2 : Int)).toNat = 2 from rfl] at hx108_0)
     replace hx108_0 := kc_ HB.out hx108_0
     replace p108 := eq_true p108
     replace q108 := eq_true q108
     have qz0 : (0 < (wrap64 (16 * wrap64 (a1 + 1))).toNat - ji8.toNat) = True := eq_true (by have hh := of_eq_true qi108; simp only [List.length_drop, List.length_take] at hh; omega)
     have qy0 : ((0 : Int) < (((wrap64 (16 * wrap64 (a1 + 1))).toNat - ji8.toNat : Nat) : Int)) = True := eq_true (by have hh := of_eq_true qi108; simp only [List.length_drop, List.length_take] at hh; omega)
     have qz1 : (1 < (wrap64 (16 * wrap64 (a1 + 1))).toNat - ji8.toNat) = True := eq_true (by have hh := of_eq_true qi108; simp only [List.length_drop, List.length_take] at hh; omega)
     have qy1 : ((1 : Int) < (((wrap64 (16 * wrap64 (a1 + 1))).toNat - ji8.toNat : Nat) : Int)) = True := eq_true (by have hh := of_eq_true qi108; simp only [List.length_drop, List.length_take] at hh; omega)
     have qz2 : (2 < (wrap64 (16 * wrap64 (a1 + 1))).toNat - ji8.toNat) = True := eq_true (by have hh := of_eq_true qi108; simp only [List.length_drop, List.length_take] at hh; omega)
     have qy2 : ((2 : Int) < (((wrap64 (16 * wrap64 (a1 + 1))).toNat - ji8.toNat : Nat) : Int)) = True := eq_true (by have hh := of_eq_true qi108; simp only [List.length_drop, List.length_take] at hh; omega)
     have HLEN := Aside0.mk (show (wrap64 (16 * wrap64 (a1 + 1))).toNat - ji8.toNat = ((l0.take ((wrap64 (16 * (wrap64 (a1 + 1)))) : Int).toNat).drop ((ji8) : Int).toNat).length by simp only [List.length_drop, List.length_take]; omega)
     refine start_ (n := 20) (S := fun w' => w'.cell? ad105 = some (.int .i64 (rd ((l0.take ((wrap64 (16 * (wrap64 (a1 + 1)))) : Int).toNat).drop ((ji8) : Int).toNat) 0)) ∧ w'.cell? ad105 = some (.int .i64 (rd ((l0.take ((wrap64 (16 * (wrap64 (a1 + 1)))) : Int).toNat).drop ((ji8) : Int).toNat) 0)) ∧ w'.cell? ⟨ad105.block, ad105.off + 1, none⟩ = some (.int .i64 (rd ((l0.take ((wrap64 (16 * (wrap64 (a1 + 1)))) : Int).toNat).drop ((ji8) : Int).toNat) 1)) ∧ w'.cell? ⟨ad105.block, ad105.off + 2, none⟩ = some (.int .i64 (rd ((l0.take ((wrap64 (16 * (wrap64 (a1 + 1)))) : Int).toNat).drop ((ji8) : Int).toNat) 2))) (ds := []) #[false, false, false, false, false, false, false, false, false, false, false, false, false, false, false, false, false, false, false, false] (by kernel_rfl) rfl rfl ⟨(kc_ HB.out hw105_0), (kc_ HB.out hw106_0), (kc_ HB.out hw107_0), (kc_ HB.out hw108_0)⟩ (fun hHeld => ?_); refine with_tabW node_Read.tab4 node_Read.bits4 (fun HT_ HW_ => ?_)
     generalize wc.drew = w56 at BK103 HB hx105_0 hx106_0 hx107_0 hx108_0 hHeld ⊢
     refine pure_ (i := 0) (N := some 27) (v := ?_) (a' := ?_) #[true, false, false, false, false, false, false, false, false, false, false, false, false, false, false, false, false, false, false, false] rfl rfl (any_of HT_.out (by kernel_rfl)) (fun _ _ _ h => h) (Or.inl ⟨by rfl, ?_⟩) ?_ ?_
     rotate_left
     · intro w'
       go_simp
       with_reducible rfl
     rotate_left
     · simp only [Act.put, List.setIfInBounds_toArray, List.set_cons_zero, List.set_cons_succ, i64_w, i32_w]
       rfl
     refine pure_ (i := 1) (N := some 28) (v := ?_) (a' := ?_) #[true, true, false, false, false, false, false, false, false, false, false, false, false, false, false, false, false, false, false, false] rfl rfl (any_of HT_.out (by kernel_rfl)) (fun _ _ _ h => h) (Or.inl ⟨by rfl, ?_⟩) ?_ ?_
     rotate_left
     · intro w'
       go_simp
       with_reducible rfl
     rotate_left
     · simp only [Act.put, List.setIfInBounds_toArray, List.set_cons_zero, List.set_cons_succ, i64_w, i32_w]
       rfl
     refine pure_ (i := 4) (N := some 31) (v := ?_) (a' := ?_) #[true, true, false, false, true, false, false, false, false, false, false, false, false, false, false, false, false, false, false, false] rfl rfl (any_of HT_.out (by kernel_rfl)) (fun _ _ _ h => h) (Or.inl ⟨by rfl, ?_⟩) ?_ ?_
     rotate_left
     · intro w'
       go_simp
       with_reducible rfl
     rotate_left
     · simp only [Act.put, List.setIfInBounds_toArray, List.set_cons_zero, List.set_cons_succ, i64_w, i32_w]
       rfl
     refine pure_ (i := 5) (N := some 32) (v := ?_) (a' := ?_) #[true, true, false, false, true, true, false, false, false, false, false, false, false, false, false, false, false, false, false, false] rfl rfl (any_of HT_.out (by kernel_rfl)) (fun _ _ _ h => h) (Or.inl ⟨by rfl, ?_⟩) ?_ ?_
     rotate_left
     · intro w'
       go_simp
       with_reducible rfl
     rotate_left
     · simp only [Act.put, List.setIfInBounds_toArray, List.set_cons_zero, List.set_cons_succ, i64_w, i32_w]
       rfl
     refine pure_ (i := 9) (N := some 36) (v := ?_) (a' := ?_) #[true, true, false, false, true, true, false, false, false, true, false, false, false, false, false, false, false, false, false, false] rfl rfl (any_of HT_.out (by kernel_rfl)) (fun _ _ _ h => h) (Or.inl ⟨by rfl, ?_⟩) ?_ ?_
     rotate_left
     · intro w'
       go_simp
       with_reducible rfl
     rotate_left
     · simp only [Act.put, List.setIfInBounds_toArray, List.set_cons_zero, List.set_cons_succ, i64_w, i32_w]
       rfl
     refine pure_ (i := 10) (N := some 37) (v := ?_) (a' := ?_) #[true, true, false, false, true, true, false, false, false, true, true, false, false, false, false, false, false, false, false, false] rfl rfl (any_of HT_.out (by kernel_rfl)) (fun _ _ _ h => h) (Or.inl ⟨by rfl, ?_⟩) ?_ ?_
     rotate_left
     · intro w'
       go_simp
       with_reducible rfl
     rotate_left
     · simp only [Act.put, List.setIfInBounds_toArray, List.set_cons_zero, List.set_cons_succ, i64_w, i32_w]
       rfl
     refine pure_ (i := 12) (N := some 39) (v := ?_) (a' := ?_) #[true, true, false, false, true, true, false, false, false, true, true, false, true, false, false, false, false, false, false, false] rfl rfl (any_of HT_.out (by kernel_rfl)) (fun _ _ _ h => h) (Or.inl ⟨by rfl, ?_⟩) ?_ ?_
     rotate_left
     · intro w'
       go_simp
       with_reducible rfl
     rotate_left
     · simp only [Act.put, List.setIfInBounds_toArray, List.set_cons_zero, List.set_cons_succ, i64_w, i32_w]
       rfl
     refine pure_ (i := 13) (N := some 40) (v := ?_) (a' := ?_) #[true, true, false, false, true, true, false, false, false, true, true, false, true, true, false, false, false, false, false, false] rfl rfl (any_of HT_.out (by kernel_rfl)) (fun _ _ _ h => h) (Or.inl ⟨by rfl, ?_⟩) ?_ ?_
     rotate_left
     · intro w'
       go_simp
       with_reducible rfl
     rotate_left
     · simp only [Act.put, List.setIfInBounds_toArray, List.set_cons_zero, List.set_cons_succ, i64_w, i32_w]
       rfl
     refine pure_ (i := 15) (N := some 42) (v := ?_) (a' := ?_) #[true, true, false, false, true, true, false, false, false, true, true, false, true, true, false, true, false, false, false, false] rfl rfl (any_of HT_.out (by kernel_rfl)) (fun _ _ _ h => h) (Or.inl ⟨by rfl, ?_⟩) ?_ ?_
     rotate_left
     · intro w'
       go_simp
       with_reducible rfl
     rotate_left
     · simp only [Act.put, List.setIfInBounds_toArray, List.set_cons_zero, List.set_cons_succ, i64_w, i32_w]
       rfl
     refine take_ (i := 2) (N := some 29) (v := ?_) (a' := ?_) #[true, true, true, false, true, true, false, false, false, true, true, false, true, true, false, true, false, false, false, false] rfl rfl (take_ofW HT_.out HW_.out (by kernel_rfl)) (fun _ _ _ h => h) (Or.inl ⟨by rfl, ?_⟩) hHeld ?_ ?_
     rotate_left
     · rintro w' ⟨s0, s1, s2, s3⟩
       go_simp
       with_reducible rfl
     rotate_left
     · simp only [Act.put, List.setIfInBounds_toArray, List.set_cons_zero, List.set_cons_succ, i64_w, i32_w]
       rfl
     refine pure_ (i := 3) (N := some 30) (v := ?_) (a' := ?_) #[true, true, true, true, true, true, false, false, false, true, true, false, true, true, false, true, false, false, false, false] rfl rfl (any_of HT_.out (by kernel_rfl)) (fun _ _ _ h => h) (Or.inl ⟨by rfl, ?_⟩) ?_ ?_
     rotate_left
     · intro w'
       go_simp
       with_reducible rfl
     rotate_left
     · simp only [Act.put, List.setIfInBounds_toArray, List.set_cons_zero, List.set_cons_succ, i64_w, i32_w]
       rfl
     refine take_ (i := 6) (N := some 33) (v := ?_) (a' := ?_) #[true, true, true, true, true, true, true, false, false, true, true, false, true, true, false, true, false, false, false, false] rfl rfl (take_ofW HT_.out HW_.out (by kernel_rfl)) (fun _ _ _ h => h) (Or.inl ⟨by rfl, ?_⟩) hHeld ?_ ?_
     rotate_left
     · rintro w' ⟨s0, s1, s2, s3⟩
       go_simp
       with_reducible rfl
     rotate_left
     · simp only [Act.put, List.setIfInBounds_toArray, List.set_cons_zero, List.set_cons_succ, i64_w, i32_w]
       rfl
     refine pure_ (i := 7) (N := some 34) (v := ?_) (a' := ?_) #[true, true, true, true, true, true, true, true, false, true, true, false, true, true, false, true, false, false, false, false] rfl rfl (any_of HT_.out (by kernel_rfl)) (fun _ _ _ h => h) (Or.inl ⟨by rfl, ?_⟩) ?_ ?_
     rotate_left
     · intro w'
       go_simp
       with_reducible rfl
     rotate_left
     · simp only [Act.put, List.setIfInBounds_toArray, List.set_cons_zero, List.set_cons_succ, i64_w, i32_w]
       rfl
     refine pure_ (i := 8) (N := some 35) (v := ?_) (a' := ?_) #[true, true, true, true, true, true, true, true, true, true, true, false, true, true, false, true, false, false, false, false] rfl rfl (any_of HT_.out (by kernel_rfl)) (fun _ _ _ h => h) (Or.inl ⟨by rfl, ?_⟩) ?_ ?_
     rotate_left
     · intro w'
       go_simp
       with_reducible rfl
     rotate_left
     · simp only [Act.put, List.setIfInBounds_toArray, List.set_cons_zero, List.set_cons_succ, i64_w, i32_w]
       rfl
     refine take_ (i := 11) (N := some 38) (v := ?_) (a' := ?_) #[true, true, true, true, true, true, true, true, true, true, true, true, true, true, false, true, false, false, false, false] rfl rfl (take_ofW HT_.out HW_.out (by kernel_rfl)) (fun _ _ _ h => h) (Or.inl ⟨by rfl, ?_⟩) hHeld ?_ ?_
     rotate_left
     · rintro w' ⟨s0, s1, s2, s3⟩
       go_simp
       with_reducible rfl
     rotate_left
     · simp only [Act.put, List.setIfInBounds_toArray, List.set_cons_zero, List.set_cons_succ, i64_w, i32_w]
       rfl
     refine take_ (i := 14) (N := some 41) (v := ?_) (a' := ?_) #[true, true, true, true, true, true, true, true, true, true, true, true, true, true, true, true, false, false, false, false] rfl rfl (take_ofW HT_.out HW_.out (by kernel_rfl)) (fun _ _ _ h => h) (Or.inl ⟨by rfl, ?_⟩) hHeld ?_ ?_
     rotate_left
     · rintro w' ⟨s0, s1, s2, s3⟩
       go_simp
       with_reducible rfl
     rotate_left
     · simp only [Act.put, List.setIfInBounds_toArray, List.set_cons_zero, List.set_cons_succ, i64_w, i32_w]
       rfl
     refine join_ (σ := Value × Nat) 1 #[true, true, true, true, true, true, true, true, true, true, true, true, true, true, true, true, true, true, true, false] (fun s_ => [(43, s_.1), (7, .pointer (some ⟨s_.2, 0, none⟩)), (44, .agg #[.int .i64 (Go.bits .and .i64 (rd ((l0.take ((wrap64 (16 * (wrap64 (a1 + 1)))) : Int).toNat).drop ((ji8) : Int).toNat) 0) 15), .int .i64 ((Go.bits .andNot .i64 (rd ((l0.take ((wrap64 (16 * (wrap64 (a1 + 1)))) : Int).toNat).drop ((ji8) : Int).toNat) 0) 1152921504606846976) / 16), .int .i64 (rd ((l0.take ((wrap64 (16 * (wrap64 (a1 + 1)))) : Int).toNat).drop ((ji8) : Int).toNat) 1), .int .i64 (rd ((l0.take ((wrap64 (16 * (wrap64 (a1 + 1)))) : Int).toNat).drop ((ji8) : Int).toNat) 2), s_.1])]) (fun s_ w' => (w'.cell? ad105 = some (.int .i64 (rd ((l0.take ((wrap64 (16 * (wrap64 (a1 + 1)))) : Int).toNat).drop ((ji8) : Int).toNat) 0)) ∧ w'.cell? ad105 = some (.int .i64 (rd ((l0.take ((wrap64 (16 * (wrap64 (a1 + 1)))) : Int).toNat).drop ((ji8) : Int).toNat) 0)) ∧ w'.cell? ⟨ad105.block, ad105.off + 1, none⟩ = some (.int .i64 (rd ((l0.take ((wrap64 (16 * (wrap64 (a1 + 1)))) : Int).toNat).drop ((ji8) : Int).toNat) 1)) ∧ w'.cell? ⟨ad105.block, ad105.off + 2, none⟩ = some (.int .i64 (rd ((l0.take ((wrap64 (16 * (wrap64 (a1 + 1)))) : Int).toNat).drop ((ji8) : Int).toNat) 2))) ∧ (Kd.R (Kd.int .i64) 3 w' w.heap.size (fun _ => True) s_.1 t109) ∧ (w'.heap[gb103]? = some (.cells #[.int .i64 0, .int .i64 0, .int .i64 0, .int .i64 0, .slice none 0 0] 24 (0, 0))) ∧ (w'.heap[s_.2]? = some (.cells #[.int .i64 0, .int .i64 0, .int .i64 0, .int .i64 0, .slice none 0 0] 24 (0, 0))) ∧ (w.heap.size ≤ s_.2) ∧ (w.heap.size ≤ s_.2) ∧ (gb103 ≠ s_.2) ∧ (s_.2 ≠ gb103) ∧ (Below w.heap.size w w')) ?_ ?_
     rotate_left
     · intro hCont
       refine two_ (i := 16) (j := 18) (Ni := some 43) (Nj := some 7) #[true, true, true, true, true, true, true, true, true, true, true, true, true, true, true, true, true, false, false, false] #[true, true, true, true, true, true, true, true, true, true, true, true, true, true, true, true, false, false, true, false] rfl rfl rfl rfl (two_of HT_.out (by kernel_rfl)) (by decide) (by decide) (fun K hK => ?_) (fun K hK => ?_)
       · skip
         refine goes_ Try.func45 (by kernel_rfl) rfl #[.slice (some ad105) ((l0.take ((wrap64 (16 * (wrap64 (a1 + 1)))) : Int).toNat).drop ((ji8) : Int).toNat).length (c0 - (ji8).toNat), .int .i64 0] (by rfl) rfl rfl (by (try simp only [List.map_toArray, List.map_cons, List.map_nil]); first | done | (rw [show ((l0.take ((wrap64 (16 * (wrap64 (a1 + 1)))) : Int).toNat).drop ((ji8) : Int).toNat).length = ((wrap64 (16 * (wrap64 (a1 + 1)))).toNat - (ji8).toNat) from (by rw [List.length_drop, List.length_take]; have h_ : ((wrap64 (16 * (wrap64 (a1 + 1)))) : Int) ≤ (l0.length : Int) := of_decide_eq_true (by first | (with_reducible assumption) | assumption); omega)] <;> rfl) | (simp only [hji8]; rfl) | rfl | (simp only [List.length_drop, List.length_take]; rfl)) ?_
         with_reducible refine (fast_Slots.calls _ _ ((l0.take ((wrap64 (16 * (wrap64 (a1 + 1)))) : Int).toNat).drop ((ji8) : Int).toNat) 0 t109 _ ?side1 ?side2 A15.out).mono ?_
         (case side1 => repeat (first | exact (Kd.C_below HR104.out HB.out) | (with_reducible refine Kd.C_alloc ?_ _) | (with_reducible refine Kd.C_drewN ?_ _) | (with_reducible refine Kd.C_drew ?_)))
         (case side2 => exact HC104.out)
         rintro e w57 ⟨v110, rfl, ho0, hb⟩
         refine ⟨_, rfl, ?_⟩
         have n0_ := Aside0.mk (Kd.R_lower ho0 (below_size (qg1_ GE103.out)))
         have n1_ := Aside0.mk (blk_below (g := gb103) (o := .cells #[.int .i64 0, .int .i64 0, .int .i64 0, .int .i64 0, .slice none 0 0] 24 (0, 0)) (qb_ BK103.out) hb)
         have n2_ := Aside0.mk (below_step (qg1_ GE103.out) hb)
         clear BK103
         clear HB
         have HO111 := n0_
         have BK103 := n1_
         have HB := n2_
         clear n0_ n1_ n2_
         (try clear hb)
         (try clear hb2)
         (try clear hk)
         (try clear hi)
         (try clear ho0)
         obtain ⟨Ao58, co58, eo58⟩ := Kd.R_slice HO111.out
         (first | subst eo58 | (injection eo58 with f1_ f2_ f3_; have f4_ := f1_.symm; have f5_ := f3_.symm; clear f1_ f2_ f3_; subst f4_; subst f5_))
         refine hK.out _ _ ⟨(kc_ HB.out hw105_0), (kc_ HB.out hw106_0), (kc_ HB.out hw107_0), (kc_ HB.out hw108_0)⟩ (fun hHeld => ?_)
         clear hK K
         refine norm_ (a' := ?_) ?_ ?_
         rotate_left
         · show Act.put _ (some 43) _ = _
           simp only [Act.put, List.setIfInBounds_toArray, List.set_cons_zero, List.set_cons_succ, i64_w, i32_w]
           rfl
         refine pure_ (i := 17) (N := some 44) (v := ?_) (a' := ?_) #[true, true, true, true, true, true, true, true, true, true, true, true, true, true, true, true, true, true, false, false] rfl rfl (any_of HT_.out (by kernel_rfl)) (fun _ _ _ h => h) (Or.inl ⟨by rfl, ?_⟩) ?_ ?_
         rotate_left
         · intro w'
           go_simp
           with_reducible rfl
         rotate_left
         · simp only [Act.put, List.setIfInBounds_toArray, List.set_cons_zero, List.set_cons_succ, i64_w, i32_w]
           rfl
         refine one_ (i := 18) (N := some 7) #[true, true, true, true, true, true, true, true, true, true, true, true, true, true, true, true, true, true, true, false] rfl rfl (one_of HT_.out (by kernel_rfl)) (by decide) (fun K hK => ?_)
         refine box_step ?hg (N := 7) ?hd (cs := #[.int .i64 0, .int .i64 0, .int .i64 0, .int .i64 0, .slice none 0 0]) (t := 24) ?hr ?_; (case hd => rfl); (case hg => rfl); (case hr => first | (go_simp; done) | (go_simp; rfl))
         intro gb112 hg w59 hbox hb
         have n0_ := Aside0.mk (Kd.R_below (qr_ HO111.out) hb)
         have n1_ := Aside0.mk (blk_below (g := gb103) (o := .cells #[.int .i64 0, .int .i64 0, .int .i64 0, .int .i64 0, .slice none 0 0] 24 (0, 0)) (qb_ BK103.out) hb)
         have n2_ := Aside0.mk (below_step (qg1_ GE103.out) hb)
         have n3_ := Aside0.mk (hbox)
         have n4_ := Aside0.mk ((by rw [hg]; exact (below_size (qg1_ GE103.out)) : w.heap.size ≤ gb112))
         have n5_ := Aside0.mk ((by rw [hg]; exact (below_size (qg1_ GE103.out)) : w.heap.size ≤ gb112))
         have n6_ := Aside0.mk ((by rw [hg]; exact Nat.ne_of_lt (blk_lt (g := gb103) (o := .cells #[.int .i64 0, .int .i64 0, .int .i64 0, .int .i64 0, .slice none 0 0] 24 (0, 0)) (qb_ BK103.out)) : gb103 ≠ gb112))
         have n7_ := Aside0.mk ((by rw [hg]; exact Nat.ne_of_gt (blk_lt (g := gb103) (o := .cells #[.int .i64 0, .int .i64 0, .int .i64 0, .int .i64 0, .slice none 0 0] 24 (0, 0)) (qb_ BK103.out)) : gb112 ≠ gb103))
         clear HO111
         clear BK103
         clear HB
         have HO111 := n0_
         have BK103 := n1_
         have HB := n2_
         have BK112 := n3_
         have GW112 := n4_
         have GE112 := n5_
         have NB103_112 := n6_
         have NB112_103 := n7_
         clear n0_ n1_ n2_ n3_ n4_ n5_ n6_ n7_
         clear hb hbox hg
         refine hK.out _ _ ⟨(kc_ HB.out hw105_0), (kc_ HB.out hw106_0), (kc_ HB.out hw107_0), (kc_ HB.out hw108_0)⟩ (fun hHeld => ?_)
         clear hK K
         refine norm_ (a' := ?_) ?_ ?_
         rotate_left
         · show Act.put _ (some 7) _ = _
           simp only [Act.put, List.setIfInBounds_toArray, List.set_cons_zero, List.set_cons_succ, i64_w, i32_w]
           rfl
         exact norm_ (by simp only [putAll, Act.put, List.setIfInBounds_toArray, List.set_cons_zero, List.set_cons_succ]) (hCont (.slice Ao58 t109.length co58, gb112) _ ⟨hHeld, (qr_ HO111.out), (qb_ BK103.out), (qb_ BK112.out), GW112.out, GE112.out, NB103_112.out, NB112_103.out, (qg2_ GE103.out GE112.out)⟩)
       skip
       refine box_step ?hg (N := 7) ?hd (cs := #[.int .i64 0, .int .i64 0, .int .i64 0, .int .i64 0, .slice none 0 0]) (t := 24) ?hr ?_; (case hd => rfl); (case hg => rfl); (case hr => first | (go_simp; done) | (go_simp; rfl))
       intro gb112 hg w57 hbox hb
       have n0_ := Aside0.mk (blk_below (g := gb103) (o := .cells #[.int .i64 0, .int .i64 0, .int .i64 0, .int .i64 0, .slice none 0 0] 24 (0, 0)) (qb_ BK103.out) hb)
       have n1_ := Aside0.mk (below_step (qg1_ GE103.out) hb)
       have n2_ := Aside0.mk (hbox)
       have n3_ := Aside0.mk ((by rw [hg]; exact (below_size (qg1_ GE103.out)) : w.heap.size ≤ gb112))
       have n4_ := Aside0.mk ((by rw [hg]; exact (below_size (qg1_ GE103.out)) : w.heap.size ≤ gb112))
       have n5_ := Aside0.mk ((by rw [hg]; exact Nat.ne_of_lt (blk_lt (g := gb103) (o := .cells #[.int .i64 0, .int .i64 0, .int .i64 0, .int .i64 0, .slice none 0 0] 24 (0, 0)) (qb_ BK103.out)) : gb103 ≠ gb112))
       have n6_ := Aside0.mk ((by rw [hg]; exact Nat.ne_of_gt (blk_lt (g := gb103) (o := .cells #[.int .i64 0, .int .i64 0, .int .i64 0, .int .i64 0, .slice none 0 0] 24 (0, 0)) (qb_ BK103.out)) : gb112 ≠ gb103))
       clear BK103
       clear HB
       have BK103 := n0_
       have HB := n1_
       have BK112 := n2_
       have GW112 := n3_
       have GE112 := n4_
       have NB103_112 := n5_
       have NB112_103 := n6_
       clear n0_ n1_ n2_ n3_ n4_ n5_ n6_
       clear hb hbox hg
       refine hK.out _ _ ⟨(kc_ HB.out hw105_0), (kc_ HB.out hw106_0), (kc_ HB.out hw107_0), (kc_ HB.out hw108_0)⟩ (fun hHeld => ?_)
       clear hK K
       refine norm_ (a' := ?_) ?_ ?_
       rotate_left
       · show Act.put _ (some 7) _ = _
         simp only [Act.put, List.setIfInBounds_toArray, List.set_cons_zero, List.set_cons_succ, i64_w, i32_w]
         rfl
       refine one_ (i := 16) (N := some 43) #[true, true, true, true, true, true, true, true, true, true, true, true, true, true, true, true, true, false, true, false] rfl rfl (one_of HT_.out (by kernel_rfl)) (by decide) (fun K hK => ?_)
       refine goes_ Try.func45 (by kernel_rfl) rfl #[.slice (some ad105) ((l0.take ((wrap64 (16 * (wrap64 (a1 + 1)))) : Int).toNat).drop ((ji8) : Int).toNat).length (c0 - (ji8).toNat), .int .i64 0] (by rfl) rfl rfl (by (try simp only [List.map_toArray, List.map_cons, List.map_nil]); first | done | (rw [show ((l0.take ((wrap64 (16 * (wrap64 (a1 + 1)))) : Int).toNat).drop ((ji8) : Int).toNat).length = ((wrap64 (16 * (wrap64 (a1 + 1)))).toNat - (ji8).toNat) from (by rw [List.length_drop, List.length_take]; have h_ : ((wrap64 (16 * (wrap64 (a1 + 1)))) : Int) ≤ (l0.length : Int) := of_decide_eq_true (by first | (with_reducible assumption) | assumption); omega)] <;> rfl) | (simp only [hji8]; rfl) | rfl | (simp only [List.length_drop, List.length_take]; rfl)) ?_
       with_reducible refine (fast_Slots.calls _ _ ((l0.take ((wrap64 (16 * (wrap64 (a1 + 1)))) : Int).toNat).drop ((ji8) : Int).toNat) 0 t109 _ ?side1 ?side2 A15.out).mono ?_
       (case side1 => repeat (first | exact (Kd.C_below HR104.out HB.out) | (with_reducible refine Kd.C_alloc ?_ _) | (with_reducible refine Kd.C_drewN ?_ _) | (with_reducible refine Kd.C_drew ?_)))
       (case side2 => exact HC104.out)
       rintro e w58 ⟨v110, rfl, ho0, hb⟩
       refine ⟨_, rfl, ?_⟩
       have n0_ := Aside0.mk (Kd.R_lower ho0 (below_size (qg2_ GE103.out GE112.out)))
       have n1_ := Aside0.mk (blk_below (g := gb103) (o := .cells #[.int .i64 0, .int .i64 0, .int .i64 0, .int .i64 0, .slice none 0 0] 24 (0, 0)) (qb_ BK103.out) hb)
       have n2_ := Aside0.mk (blk_below (g := gb112) (o := .cells #[.int .i64 0, .int .i64 0, .int .i64 0, .int .i64 0, .slice none 0 0] 24 (0, 0)) (qb_ BK112.out) hb)
       have n3_ := Aside0.mk (below_step (qg2_ GE103.out GE112.out) hb)
       clear BK103
       clear BK112
       clear HB
       have HO111 := n0_
       have BK103 := n1_
       have BK112 := n2_
       have HB := n3_
       clear n0_ n1_ n2_ n3_
       (try clear hb)
       (try clear hb2)
       (try clear hk)
       (try clear hi)
       (try clear ho0)
       obtain ⟨Ao59, co59, eo59⟩ := Kd.R_slice HO111.out
       (first | subst eo59 | (injection eo59 with f1_ f2_ f3_; have f4_ := f1_.symm; have f5_ := f3_.symm; clear f1_ f2_ f3_; subst f4_; subst f5_))
       refine hK.out _ _ ⟨(kc_ HB.out hw105_0), (kc_ HB.out hw106_0), (kc_ HB.out hw107_0), (kc_ HB.out hw108_0)⟩ (fun hHeld => ?_)
       clear hK K
       refine norm_ (a' := ?_) ?_ ?_
       rotate_left
       · show Act.put _ (some 43) _ = _
         simp only [Act.put, List.setIfInBounds_toArray, List.set_cons_zero, List.set_cons_succ, i64_w, i32_w]
         rfl
       refine pure_ (i := 17) (N := some 44) (v := ?_) (a' := ?_) #[true, true, true, true, true, true, true, true, true, true, true, true, true, true, true, true, true, true, true, false] rfl rfl (any_of HT_.out (by kernel_rfl)) (fun _ _ _ h => h) (Or.inl ⟨by rfl, ?_⟩) ?_ ?_
       rotate_left
       · intro w'
         go_simp
         with_reducible rfl
       rotate_left
       · simp only [Act.put, List.setIfInBounds_toArray, List.set_cons_zero, List.set_cons_succ, i64_w, i32_w]
         rfl
       exact norm_ (by simp only [putAll, Act.put, List.setIfInBounds_toArray, List.set_cons_zero, List.set_cons_succ]) (hCont (.slice Ao59 t109.length co59, gb112) _ ⟨hHeld, (qr_ HO111.out), (qb_ BK103.out), (qb_ BK112.out), GW112.out, GE112.out, NB103_112.out, NB112_103.out, (qg2_ GE103.out GE112.out)⟩)
     rintro ⟨v110, gb112⟩ w60 ⟨hS_, h0_, h1_, h2_, h3_, h4_, h5_, h6_, h7_⟩
     have n0_ : Aside0 (Kd.R (Kd.int .i64) 3 w60 w.heap.size (fun _ => True) v110 t109) := ⟨h0_⟩
     have n1_ : Aside0 (w60.heap[gb103]? = some (.cells #[.int .i64 0, .int .i64 0, .int .i64 0, .int .i64 0, .slice none 0 0] 24 (0, 0))) := ⟨h1_⟩
     have n2_ : Aside0 (w60.heap[gb112]? = some (.cells #[.int .i64 0, .int .i64 0, .int .i64 0, .int .i64 0, .slice none 0 0] 24 (0, 0))) := ⟨h2_⟩
     have n3_ : Aside0 (w.heap.size ≤ gb112) := ⟨h3_⟩
     have n4_ : Aside0 (w.heap.size ≤ gb112) := ⟨h4_⟩
     have n5_ : Aside0 (gb103 ≠ gb112) := ⟨h5_⟩
     have n6_ : Aside0 (gb112 ≠ gb103) := ⟨h6_⟩
     have n7_ : Aside0 (Below w.heap.size w w60) := ⟨h7_⟩
     clear BK103
     clear HB
     clear h0_ h1_ h2_ h3_ h4_ h5_ h6_ h7_
     have HO111 := n0_
     have BK103 := n1_
     have BK112 := n2_
     have GW112 := n3_
     have GE112 := n4_
     have NB103_112 := n5_
     have NB112_103 := n6_
     have HB := n7_
     clear n0_ n1_ n2_ n3_ n4_ n5_ n6_ n7_
     have hHeld : w60.cell? ad105 = some (.int .i64 (rd ((l0.take ((wrap64 (16 * (wrap64 (a1 + 1)))) : Int).toNat).drop ((ji8) : Int).toNat) 0)) ∧ w60.cell? ad105 = some (.int .i64 (rd ((l0.take ((wrap64 (16 * (wrap64 (a1 + 1)))) : Int).toNat).drop ((ji8) : Int).toNat) 0)) ∧ w60.cell? ⟨ad105.block, ad105.off + 1, none⟩ = some (.int .i64 (rd ((l0.take ((wrap64 (16 * (wrap64 (a1 + 1)))) : Int).toNat).drop ((ji8) : Int).toNat) 1)) ∧ w60.cell? ⟨ad105.block, ad105.off + 2, none⟩ = some (.int .i64 (rd ((l0.take ((wrap64 (16 * (wrap64 (a1 + 1)))) : Int).toNat).drop ((ji8) : Int).toNat) 2)) := hS_
     obtain ⟨Ao61, co61, eo61⟩ := Kd.R_slice HO111.out
     (first | subst eo61 | (injection eo61 with f1_ f2_ f3_; have f4_ := f1_.symm; have f5_ := f3_.symm; clear f1_ f2_ f3_; subst f4_; subst f5_))
     refine norm_ (a' := ?_) ?_ ?_
     rotate_left
     · simp only [putAll, Act.put, List.setIfInBounds_toArray, List.set_cons_zero, List.set_cons_succ]
       rfl
     refine one_ (i := 19) (N := none) #[true, true, true, true, true, true, true, true, true, true, true, true, true, true, true, true, true, true, true, true] rfl rfl (one_of HT_.out (by kernel_rfl)) (by decide) (fun K hK => ?_)
     have hs62 : w60.cell? ⟨gb112, 0, none⟩ = some (.int .i64 0) := (blk_cell BK112.out 0).trans rfl
     have hfs62 := blk_frozen BK112.out 0
     have hns62_0 := NB103_112.out
     have hms62_0 := NB112_103.out
     have hs63 : w60.cell? ⟨gb112, 1, none⟩ = some (.int .i64 0) := (blk_cell BK112.out 1).trans rfl
     have hfs63 := blk_frozen BK112.out 1
     have hns63_0 := NB103_112.out
     have hms63_0 := NB112_103.out
     have hs64 : w60.cell? ⟨gb112, 2, none⟩ = some (.int .i64 0) := (blk_cell BK112.out 2).trans rfl
     have hfs64 := blk_frozen BK112.out 2
     have hns64_0 := NB103_112.out
     have hms64_0 := NB112_103.out
     have hs65 : w60.cell? ⟨gb112, 3, none⟩ = some (.int .i64 0) := (blk_cell BK112.out 3).trans rfl
     have hfs65 := blk_frozen BK112.out 3
     have hns65_0 := NB103_112.out
     have hms65_0 := NB112_103.out
     have hs66 : w60.cell? ⟨gb112, 4, none⟩ = some (.slice none 0 0) := (blk_cell BK112.out 4).trans rfl
     have hfs66 := blk_frozen BK112.out 4
     have hns66_0 := NB103_112.out
     have hms66_0 := NB112_103.out
     refine skip_ (w1 := ?_) (by rfl) rfl ?_ ?_
     rotate_left
     · go_simp
       rfl
     refine hK.out _ _ ⟨((cell_far (p := ⟨gb112, _, none⟩) (by first | exact Nat.ne_of_lt (Nat.lt_of_lt_of_le (kl_ hw105_0) GW112.out) | (rw [add_block]; exact Nat.ne_of_lt (Nat.lt_of_lt_of_le (kl_ hw105_0) GW112.out)) | (show (Addr.add _ _).block ≠ _; rw [add_block]; exact Nat.ne_of_lt (Nat.lt_of_lt_of_le (kl_ hw105_0) GW112.out)) | (dsimp only; exact Nat.ne_of_lt (Nat.lt_of_lt_of_le (kl_ hw105_0) GW112.out))) _).trans (((cell_far (p := ⟨gb112, _, none⟩) (by first | exact Nat.ne_of_lt (Nat.lt_of_lt_of_le (kl_ hw105_0) GW112.out) | (rw [add_block]; exact Nat.ne_of_lt (Nat.lt_of_lt_of_le (kl_ hw105_0) GW112.out)) | (show (Addr.add _ _).block ≠ _; rw [add_block]; exact Nat.ne_of_lt (Nat.lt_of_lt_of_le (kl_ hw105_0) GW112.out)) | (dsimp only; exact Nat.ne_of_lt (Nat.lt_of_lt_of_le (kl_ hw105_0) GW112.out))) _).trans (((cell_far (p := ⟨gb112, _, none⟩) (by first | exact Nat.ne_of_lt (Nat.lt_of_lt_of_le (kl_ hw105_0) GW112.out) | (rw [add_block]; exact Nat.ne_of_lt (Nat.lt_of_lt_of_le (kl_ hw105_0) GW112.out)) | (show (Addr.add _ _).block ≠ _; rw [add_block]; exact Nat.ne_of_lt (Nat.lt_of_lt_of_le (kl_ hw105_0) GW112.out)) | (dsimp only; exact Nat.ne_of_lt (Nat.lt_of_lt_of_le (kl_ hw105_0) GW112.out))) _).trans (((cell_far (p := ⟨gb112, _, none⟩) (by first | exact Nat.ne_of_lt (Nat.lt_of_lt_of_le (kl_ hw105_0) GW112.out) | (rw [add_block]; exact Nat.ne_of_lt (Nat.lt_of_lt_of_le (kl_ hw105_0) GW112.out)) | (show (Addr.add _ _).block ≠ _; rw [add_block]; exact Nat.ne_of_lt (Nat.lt_of_lt_of_le (kl_ hw105_0) GW112.out)) | (dsimp only; exact Nat.ne_of_lt (Nat.lt_of_lt_of_le (kl_ hw105_0) GW112.out))) _).trans (((cell_far (p := ⟨gb112, _, none⟩) (by first | exact Nat.ne_of_lt (Nat.lt_of_lt_of_le (kl_ hw105_0) GW112.out) | (rw [add_block]; exact Nat.ne_of_lt (Nat.lt_of_lt_of_le (kl_ hw105_0) GW112.out)) | (show (Addr.add _ _).block ≠ _; rw [add_block]; exact Nat.ne_of_lt (Nat.lt_of_lt_of_le (kl_ hw105_0) GW112.out)) | (dsimp only; exact Nat.ne_of_lt (Nat.lt_of_lt_of_le (kl_ hw105_0) GW112.out))) _).trans (hHeld.1)))))))))), ((cell_far (p := ⟨gb112, _, none⟩) (by first | exact Nat.ne_of_lt (Nat.lt_of_lt_of_le (kl_ hw106_0) GW112.out) | (rw [add_block]; exact Nat.ne_of_lt (Nat.lt_of_lt_of_le (kl_ hw106_0) GW112.out)) | (show (Addr.add _ _).block ≠ _; rw [add_block]; exact Nat.ne_of_lt (Nat.lt_of_lt_of_le (kl_ hw106_0) GW112.out)) | (dsimp only; exact Nat.ne_of_lt (Nat.lt_of_lt_of_le (kl_ hw106_0) GW112.out))) _).trans (((cell_far (p := ⟨gb112, _, none⟩) (by first | exact Nat.ne_of_lt (Nat.lt_of_lt_of_le (kl_ hw106_0) GW112.out) | (rw [add_block]; exact Nat.ne_of_lt (Nat.lt_of_lt_of_le (kl_ hw106_0) GW112.out)) | (show (Addr.add _ _).block ≠ _; rw [add_block]; exact Nat.ne_of_lt (Nat.lt_of_lt_of_le (kl_ hw106_0) GW112.out)) | (dsimp only; exact Nat.ne_of_lt (Nat.lt_of_lt_of_le (kl_ hw106_0) GW112.out))) _).trans (((cell_far (p := ⟨gb112, _, none⟩) (by first | exact Nat.ne_of_lt (Nat.lt_of_lt_of_le (kl_ hw106_0) GW112.out) | (rw [add_block]; exact Nat.ne_of_lt (Nat.lt_of_lt_of_le (kl_ hw106_0) GW112.out)) | (show (Addr.add _ _).block ≠ _; rw [add_block]; exact Nat.ne_of_lt (Nat.lt_of_lt_of_le (kl_ hw106_0) GW112.out)) | (dsimp only; exact Nat.ne_of_lt (Nat.lt_of_lt_of_le (kl_ hw106_0) GW112.out))) _).trans (((cell_far (p := ⟨gb112, _, none⟩) (by first | exact Nat.ne_of_lt (Nat.lt_of_lt_of_le (kl_ hw106_0) GW112.out) | (rw [add_block]; exact Nat.ne_of_lt (Nat.lt_of_lt_of_le (kl_ hw106_0) GW112.out)) | (show (Addr.add _ _).block ≠ _; rw [add_block]; exact Nat.ne_of_lt (Nat.lt_of_lt_of_le (kl_ hw106_0) GW112.out)) | (dsimp only; exact Nat.ne_of_lt (Nat.lt_of_lt_of_le (kl_ hw106_0) GW112.out))) _).trans (((cell_far (p := ⟨gb112, _, none⟩) (by first | exact Nat.ne_of_lt (Nat.lt_of_lt_of_le (kl_ hw106_0) GW112.out) | (rw [add_block]; exact Nat.ne_of_lt (Nat.lt_of_lt_of_le (kl_ hw106_0) GW112.out)) | (show (Addr.add _ _).block ≠ _; rw [add_block]; exact Nat.ne_of_lt (Nat.lt_of_lt_of_le (kl_ hw106_0) GW112.out)) | (dsimp only; exact Nat.ne_of_lt (Nat.lt_of_lt_of_le (kl_ hw106_0) GW112.out))) _).trans (hHeld.2.1)))))))))), ((cell_far (p := ⟨gb112, _, none⟩) (by first | exact Nat.ne_of_lt (Nat.lt_of_lt_of_le (kl_ hw107_0) GW112.out) | (rw [add_block]; exact Nat.ne_of_lt (Nat.lt_of_lt_of_le (kl_ hw107_0) GW112.out)) | (show (Addr.add _ _).block ≠ _; rw [add_block]; exact Nat.ne_of_lt (Nat.lt_of_lt_of_le (kl_ hw107_0) GW112.out)) | (dsimp only; exact Nat.ne_of_lt (Nat.lt_of_lt_of_le (kl_ hw107_0) GW112.out))) _).trans (((cell_far (p := ⟨gb112, _, none⟩) (by first | exact Nat.ne_of_lt (Nat.lt_of_lt_of_le (kl_ hw107_0) GW112.out) | (rw [add_block]; exact Nat.ne_of_lt (Nat.lt_of_lt_of_le (kl_ hw107_0) GW112.out)) | (show (Addr.add _ _).block ≠ _; rw [add_block]; exact Nat.ne_of_lt (Nat.lt_of_lt_of_le (kl_ hw107_0) GW112.out)) | (dsimp only; exact Nat.ne_of_lt (Nat.lt_of_lt_of_le (kl_ hw107_0) GW112.out))) _).trans (((cell_far (p := ⟨gb112, _, none⟩) (by first | exact Nat.ne_of_lt (Nat.lt_of_lt_of_le (kl_ hw107_0) GW112.out) | (rw [add_block]; exact Nat.ne_of_lt (Nat.lt_of_lt_of_le (kl_ hw107_0) GW112.out)) | (show (Addr.add _ _).block ≠ _; rw [add_block]; exact Nat.ne_of_lt (Nat.lt_of_lt_of_le (kl_ hw107_0) GW112.out)) | (dsimp only; exact Nat.ne_of_lt (Nat.lt_of_lt_of_le (kl_ hw107_0) GW112.out))) _).trans (((cell_far (p := ⟨gb112, _, none⟩) (by first | exact Nat.ne_of_lt (Nat.lt_of_lt_of_le (kl_ hw107_0) GW112.out) | (rw [add_block]; exact Nat.ne_of_lt (Nat.lt_of_lt_of_le (kl_ hw107_0) GW112.out)) | (show (Addr.add _ _).block ≠ _; rw [add_block]; exact Nat.ne_of_lt (Nat.lt_of_lt_of_le (kl_ hw107_0) GW112.out)) | (dsimp only; exact Nat.ne_of_lt (Nat.lt_of_lt_of_le (kl_ hw107_0) GW112.out))) _).trans (((cell_far (p := ⟨gb112, _, none⟩) (by first | exact Nat.ne_of_lt (Nat.lt_of_lt_of_le (kl_ hw107_0) GW112.out) | (rw [add_block]; exact Nat.ne_of_lt (Nat.lt_of_lt_of_le (kl_ hw107_0) GW112.out)) | (show (Addr.add _ _).block ≠ _; rw [add_block]; exact Nat.ne_of_lt (Nat.lt_of_lt_of_le (kl_ hw107_0) GW112.out)) | (dsimp only; exact Nat.ne_of_lt (Nat.lt_of_lt_of_le (kl_ hw107_0) GW112.out))) _).trans (hHeld.2.2.1)))))))))), ((cell_far (p := ⟨gb112, _, none⟩) (by first | exact Nat.ne_of_lt (Nat.lt_of_lt_of_le (kl_ hw108_0) GW112.out) | (rw [add_block]; exact Nat.ne_of_lt (Nat.lt_of_lt_of_le (kl_ hw108_0) GW112.out)) | (show (Addr.add _ _).block ≠ _; rw [add_block]; exact Nat.ne_of_lt (Nat.lt_of_lt_of_le (kl_ hw108_0) GW112.out)) | (dsimp only; exact Nat.ne_of_lt (Nat.lt_of_lt_of_le (kl_ hw108_0) GW112.out))) _).trans (((cell_far (p := ⟨gb112, _, none⟩) (by first | exact Nat.ne_of_lt (Nat.lt_of_lt_of_le (kl_ hw108_0) GW112.out) | (rw [add_block]; exact Nat.ne_of_lt (Nat.lt_of_lt_of_le (kl_ hw108_0) GW112.out)) | (show (Addr.add _ _).block ≠ _; rw [add_block]; exact Nat.ne_of_lt (Nat.lt_of_lt_of_le (kl_ hw108_0) GW112.out)) | (dsimp only; exact Nat.ne_of_lt (Nat.lt_of_lt_of_le (kl_ hw108_0) GW112.out))) _).trans (((cell_far (p := ⟨gb112, _, none⟩) (by first | exact Nat.ne_of_lt (Nat.lt_of_lt_of_le (kl_ hw108_0) GW112.out) | (rw [add_block]; exact Nat.ne_of_lt (Nat.lt_of_lt_of_le (kl_ hw108_0) GW112.out)) | (show (Addr.add _ _).block ≠ _; rw [add_block]; exact Nat.ne_of_lt (Nat.lt_of_lt_of_le (kl_ hw108_0) GW112.out)) | (dsimp only; exact Nat.ne_of_lt (Nat.lt_of_lt_of_le (kl_ hw108_0) GW112.out))) _).trans (((cell_far (p := ⟨gb112, _, none⟩) (by first | exact Nat.ne_of_lt (Nat.lt_of_lt_of_le (kl_ hw108_0) GW112.out) | (rw [add_block]; exact Nat.ne_of_lt (Nat.lt_of_lt_of_le (kl_ hw108_0) GW112.out)) | (show (Addr.add _ _).block ≠ _; rw [add_block]; exact Nat.ne_of_lt (Nat.lt_of_lt_of_le (kl_ hw108_0) GW112.out)) | (dsimp only; exact Nat.ne_of_lt (Nat.lt_of_lt_of_le (kl_ hw108_0) GW112.out))) _).trans (((cell_far (p := ⟨gb112, _, none⟩) (by first | exact Nat.ne_of_lt (Nat.lt_of_lt_of_le (kl_ hw108_0) GW112.out) | (rw [add_block]; exact Nat.ne_of_lt (Nat.lt_of_lt_of_le (kl_ hw108_0) GW112.out)) | (show (Addr.add _ _).block ≠ _; rw [add_block]; exact Nat.ne_of_lt (Nat.lt_of_lt_of_le (kl_ hw108_0) GW112.out)) | (dsimp only; exact Nat.ne_of_lt (Nat.lt_of_lt_of_le (kl_ hw108_0) GW112.out))) _).trans (hHeld.2.2.2))))))))))⟩ (fun hHeld => ?_)
     clear hK K
     refine done_ (done_of HT_.out (by kernel_rfl)) ?_
     have hnb67 := NB112_103.out
     have hnc67 := NB103_112.out
     have hcz68_0 : w60.cell? ⟨gb112, 0, none⟩ = some (.int .i64 0) := (blk_cell BK112.out 0).trans rfl
     have hcz68_1 : w60.cell? ⟨gb112, 1, none⟩ = some (.int .i64 0) := (blk_cell BK112.out 1).trans rfl
     have hcz68_2 : w60.cell? ⟨gb112, 2, none⟩ = some (.int .i64 0) := (blk_cell BK112.out 2).trans rfl
     have hcz68_3 : w60.cell? ⟨gb112, 3, none⟩ = some (.int .i64 0) := (blk_cell BK112.out 3).trans rfl
     have hcz68_4 : w60.cell? ⟨gb112, 4, none⟩ = some (.slice none 0 0) := (blk_cell BK112.out 4).trans rfl
     have hfz68_0 := blk_frozen BK112.out 0
     have hfz68_1 := blk_frozen BK112.out 1
     have hfz68_2 := blk_frozen BK112.out 2
     have hfz68_3 := blk_frozen BK112.out 3
     have hfz68_4 := blk_frozen BK112.out 4
     try go_wp2_with (first | ((with_reducible refine gate_callee (f := 46) rfl ?_); refine goesL_ (some 47) rfl rfl Try.func46 (by kernel_rfl) rfl #[.agg #[.int .i64 (Go.bits .and .i64 (rd ((l0.take ((wrap64 (16 * (wrap64 (a1 + 1)))) : Int).toNat).drop ((ji8) : Int).toNat) 0) 15), .int .i64 ((Go.bits .andNot .i64 (rd ((l0.take ((wrap64 (16 * (wrap64 (a1 + 1)))) : Int).toNat).drop ((ji8) : Int).toNat) 0) 1152921504606846976) / 16), .int .i64 (rd ((l0.take ((wrap64 (16 * (wrap64 (a1 + 1)))) : Int).toNat).drop ((ji8) : Int).toNat) 1), .int .i64 (rd ((l0.take ((wrap64 (16 * (wrap64 (a1 + 1)))) : Int).toNat).drop ((ji8) : Int).toNat) 2), .slice Ao61 t109.length co61]] rfl (by (try simp only [List.map_toArray, List.map_cons, List.map_nil]); first | done | (simp only [hji8]; rfl) | rfl | (simp only [List.length_drop, List.length_take]; rfl)) ?_; (with_reducible refine (node_Words.calls (Go.bits .and .i64 (rd ((l0.take ((wrap64 (16 * (wrap64 (a1 + 1)))) : Int).toNat).drop ((ji8) : Int).toNat) 0) 15) ((Go.bits .andNot .i64 (rd ((l0.take ((wrap64 (16 * (wrap64 (a1 + 1)))) : Int).toNat).drop ((ji8) : Int).toNat) 0) 1152921504606846976) / 16) (rd ((l0.take ((wrap64 (16 * (wrap64 (a1 + 1)))) : Int).toNat).drop ((ji8) : Int).toNat) 1) (rd ((l0.take ((wrap64 (16 * (wrap64 (a1 + 1)))) : Int).toNat).drop ((ji8) : Int).toNat) 2) _ _ t109 t113 t116 _ ?side1 ?side2 A16.out).mono ?_); (case side1 => refine (Kd.R_reads' (e := 3) (base := w.heap.size) (ok := fun k_ => True) (n := t109.length) (c := co61) ?_).2.2; exact (by (with_reducible repeat (first | apply Kd.R_alloc | apply Kd.R_drewN | apply Kd.R_drew)); exact (Kd.R_mono (Kd.R_far (p := ⟨gb112, 4, none⟩) (Kd.R_far (p := ⟨gb112, 3, none⟩) (Kd.R_far (p := ⟨gb112, 2, none⟩) (Kd.R_far (p := ⟨gb112, 1, none⟩) (Kd.R_far (p := ⟨gb112, 0, none⟩) (Kd.R_types HO111.out BK112.out (by decide)) (fun _ hk => hk.2) (.int .i64 (Go.bits .and .i64 (rd ((l0.take ((wrap64 (16 * (wrap64 (a1 + 1)))) : Int).toNat).drop ((ji8) : Int).toNat) 0) 15))) (fun _ hk => hk.2) (.int .i64 ((Go.bits .andNot .i64 (rd ((l0.take ((wrap64 (16 * (wrap64 (a1 + 1)))) : Int).toNat).drop ((ji8) : Int).toNat) 0) 1152921504606846976) / 16))) (fun _ hk => hk.2) (.int .i64 (rd ((l0.take ((wrap64 (16 * (wrap64 (a1 + 1)))) : Int).toNat).drop ((ji8) : Int).toNat) 1))) (fun _ hk => hk.2) (.int .i64 (rd ((l0.take ((wrap64 (16 * (wrap64 (a1 + 1)))) : Int).toNat).drop ((ji8) : Int).toNat) 2))) (fun _ hk => hk.2) (.slice Ao61 t109.length co61)) (fun _ h_ => h_.1)))); (case side2 => exact (Kd.R_reads' HO111.out).2.1); rintro e w69 ⟨v114, rfl, ho0, hb⟩; refine ⟨_, rfl, ?_⟩; have n0_ := Aside0.mk (Kd.R_elder' (by (with_reducible repeat (first | apply Kd.R_alloc | apply Kd.R_drewN | apply Kd.R_drew)); exact (Kd.R_mono (Kd.R_far (p := ⟨gb112, 4, none⟩) (Kd.R_far (p := ⟨gb112, 3, none⟩) (Kd.R_far (p := ⟨gb112, 2, none⟩) (Kd.R_far (p := ⟨gb112, 1, none⟩) (Kd.R_far (p := ⟨gb112, 0, none⟩) (Kd.R_types HO111.out BK112.out (by decide)) (fun _ hk => hk.2) (.int .i64 (Go.bits .and .i64 (rd ((l0.take ((wrap64 (16 * (wrap64 (a1 + 1)))) : Int).toNat).drop ((ji8) : Int).toNat) 0) 15))) (fun _ hk => hk.2) (.int .i64 ((Go.bits .andNot .i64 (rd ((l0.take ((wrap64 (16 * (wrap64 (a1 + 1)))) : Int).toNat).drop ((ji8) : Int).toNat) 0) 1152921504606846976) / 16))) (fun _ hk => hk.2) (.int .i64 (rd ((l0.take ((wrap64 (16 * (wrap64 (a1 + 1)))) : Int).toNat).drop ((ji8) : Int).toNat) 1))) (fun _ hk => hk.2) (.int .i64 (rd ((l0.take ((wrap64 (16 * (wrap64 (a1 + 1)))) : Int).toNat).drop ((ji8) : Int).toNat) 2))) (fun _ hk => hk.2) (.slice Ao61 t109.length co61)) (fun _ h_ => h_.1))) (Kd.R_base ho0) hb); have n1_ := Aside0.mk (Kd.R_lower (Kd.R_new' ho0 (Kd.R_lt (by (with_reducible repeat (first | apply Kd.R_alloc | apply Kd.R_drewN | apply Kd.R_drew)); exact (Kd.R_mono (Kd.R_far (p := ⟨gb112, 4, none⟩) (Kd.R_far (p := ⟨gb112, 3, none⟩) (Kd.R_far (p := ⟨gb112, 2, none⟩) (Kd.R_far (p := ⟨gb112, 1, none⟩) (Kd.R_far (p := ⟨gb112, 0, none⟩) (Kd.R_types HO111.out BK112.out (by decide)) (fun _ hk => hk.2) (.int .i64 (Go.bits .and .i64 (rd ((l0.take ((wrap64 (16 * (wrap64 (a1 + 1)))) : Int).toNat).drop ((ji8) : Int).toNat) 0) 15))) (fun _ hk => hk.2) (.int .i64 ((Go.bits .andNot .i64 (rd ((l0.take ((wrap64 (16 * (wrap64 (a1 + 1)))) : Int).toNat).drop ((ji8) : Int).toNat) 0) 1152921504606846976) / 16))) (fun _ hk => hk.2) (.int .i64 (rd ((l0.take ((wrap64 (16 * (wrap64 (a1 + 1)))) : Int).toNat).drop ((ji8) : Int).toNat) 1))) (fun _ hk => hk.2) (.int .i64 (rd ((l0.take ((wrap64 (16 * (wrap64 (a1 + 1)))) : Int).toNat).drop ((ji8) : Int).toNat) 2))) (fun _ hk => hk.2) (.slice Ao61 t109.length co61)) (fun _ h_ => h_.1))))) (below_size (qg2_ GE103.out GE112.out))); have n2_ := Aside0.mk (blk_below (g := gb103) (o := .cells #[.int .i64 0, .int .i64 0, .int .i64 0, .int .i64 0, .slice none 0 0] 24 (0, 0)) (by (with_reducible repeat (first | refine blk_drewN ?_ _ | refine blk_drew ?_ | refine blk_alloc ?_ _)); refine blk_far ?_ NB103_112.out _; (with_reducible repeat (first | refine blk_drewN ?_ _ | refine blk_drew ?_ | refine blk_alloc ?_ _)); refine blk_far ?_ NB103_112.out _; (with_reducible repeat (first | refine blk_drewN ?_ _ | refine blk_drew ?_ | refine blk_alloc ?_ _)); refine blk_far ?_ NB103_112.out _; (with_reducible repeat (first | refine blk_drewN ?_ _ | refine blk_drew ?_ | refine blk_alloc ?_ _)); refine blk_far ?_ NB103_112.out _; (with_reducible repeat (first | refine blk_drewN ?_ _ | refine blk_drew ?_ | refine blk_alloc ?_ _)); refine blk_far ?_ NB103_112.out _; (with_reducible repeat (first | refine blk_drewN ?_ _ | refine blk_drew ?_ | refine blk_alloc ?_ _)); exact BK103.out) hb); have n3_ := Aside0.mk (blk_below (g := gb112) (o := .cells #[.int .i64 (Go.bits .and .i64 (rd ((l0.take ((wrap64 (16 * (wrap64 (a1 + 1)))) : Int).toNat).drop ((ji8) : Int).toNat) 0) 15), .int .i64 ((Go.bits .andNot .i64 (rd ((l0.take ((wrap64 (16 * (wrap64 (a1 + 1)))) : Int).toNat).drop ((ji8) : Int).toNat) 0) 1152921504606846976) / 16), .int .i64 (rd ((l0.take ((wrap64 (16 * (wrap64 (a1 + 1)))) : Int).toNat).drop ((ji8) : Int).toNat) 1), .int .i64 (rd ((l0.take ((wrap64 (16 * (wrap64 (a1 + 1)))) : Int).toNat).drop ((ji8) : Int).toNat) 2), .slice Ao61 t109.length co61] 24 (0, 0)) (by (with_reducible repeat (first | refine blk_drewN ?_ _ | refine blk_drew ?_ | refine blk_alloc ?_ _)); refine blk_put (cs := #[.int .i64 (Go.bits .and .i64 (rd ((l0.take ((wrap64 (16 * (wrap64 (a1 + 1)))) : Int).toNat).drop ((ji8) : Int).toNat) 0) 15), .int .i64 ((Go.bits .andNot .i64 (rd ((l0.take ((wrap64 (16 * (wrap64 (a1 + 1)))) : Int).toNat).drop ((ji8) : Int).toNat) 0) 1152921504606846976) / 16), .int .i64 (rd ((l0.take ((wrap64 (16 * (wrap64 (a1 + 1)))) : Int).toNat).drop ((ji8) : Int).toNat) 1), .int .i64 (rd ((l0.take ((wrap64 (16 * (wrap64 (a1 + 1)))) : Int).toNat).drop ((ji8) : Int).toNat) 2), .slice none 0 0]) ?_ 4 _ rfl; (with_reducible repeat (first | refine blk_drewN ?_ _ | refine blk_drew ?_ | refine blk_alloc ?_ _)); refine blk_put (cs := #[.int .i64 (Go.bits .and .i64 (rd ((l0.take ((wrap64 (16 * (wrap64 (a1 + 1)))) : Int).toNat).drop ((ji8) : Int).toNat) 0) 15), .int .i64 ((Go.bits .andNot .i64 (rd ((l0.take ((wrap64 (16 * (wrap64 (a1 + 1)))) : Int).toNat).drop ((ji8) : Int).toNat) 0) 1152921504606846976) / 16), .int .i64 (rd ((l0.take ((wrap64 (16 * (wrap64 (a1 + 1)))) : Int).toNat).drop ((ji8) : Int).toNat) 1), .int .i64 0, .slice none 0 0]) ?_ 3 _ rfl; (with_reducible repeat (first | refine blk_drewN ?_ _ | refine blk_drew ?_ | refine blk_alloc ?_ _)); refine blk_put (cs := #[.int .i64 (Go.bits .and .i64 (rd ((l0.take ((wrap64 (16 * (wrap64 (a1 + 1)))) : Int).toNat).drop ((ji8) : Int).toNat) 0) 15), .int .i64 ((Go.bits .andNot .i64 (rd ((l0.take ((wrap64 (16 * (wrap64 (a1 + 1)))) : Int).toNat).drop ((ji8) : Int).toNat) 0) 1152921504606846976) / 16), .int .i64 0, .int .i64 0, .slice none 0 0]) ?_ 2 _ rfl; (with_reducible repeat (first | refine blk_drewN ?_ _ | refine blk_drew ?_ | refine blk_alloc ?_ _)); refine blk_put (cs := #[.int .i64 (Go.bits .and .i64 (rd ((l0.take ((wrap64 (16 * (wrap64 (a1 + 1)))) : Int).toNat).drop ((ji8) : Int).toNat) 0) 15), .int .i64 0, .int .i64 0, .int .i64 0, .slice none 0 0]) ?_ 1 _ rfl; (with_reducible repeat (first | refine blk_drewN ?_ _ | refine blk_drew ?_ | refine blk_alloc ?_ _)); refine blk_put (cs := #[.int .i64 0, .int .i64 0, .int .i64 0, .int .i64 0, .slice none 0 0]) ?_ 0 _ rfl; (with_reducible repeat (first | refine blk_drewN ?_ _ | refine blk_drew ?_ | refine blk_alloc ?_ _)); exact BK112.out) hb); have n4_ := Aside0.mk (below_step (qg2_ GE103.out GE112.out) hb); clear HO111; clear BK103; clear BK112; clear HB; have HO111 := n0_; have HO115 := n1_; have BK103 := n2_; have BK112 := n3_; have HB := n4_; clear n0_ n1_ n2_ n3_ n4_; (try clear hb); (try clear hb2); (try clear hk); (try clear hi); (try clear ho0); have hcz70_0 : w69.cell? ⟨gb103, 0, none⟩ = some (.int .i64 0) := (blk_cell BK103.out 0).trans rfl; have hcz70_1 : w69.cell? ⟨gb103, 1, none⟩ = some (.int .i64 0) := (blk_cell BK103.out 1).trans rfl; have hcz70_2 : w69.cell? ⟨gb103, 2, none⟩ = some (.int .i64 0) := (blk_cell BK103.out 2).trans rfl; have hcz70_3 : w69.cell? ⟨gb103, 3, none⟩ = some (.int .i64 0) := (blk_cell BK103.out 3).trans rfl; have hcz70_4 : w69.cell? ⟨gb103, 4, none⟩ = some (.slice none 0 0) := (blk_cell BK103.out 4).trans rfl; have hfz70_0 := blk_frozen BK103.out 0; have hfz70_1 := blk_frozen BK103.out 1; have hfz70_2 := blk_frozen BK103.out 2; have hfz70_3 := blk_frozen BK103.out 3; have hfz70_4 := blk_frozen BK103.out 4))
     refine bodyPost_ret (results_ct rfl _ _ gb103 24 #[.int .i64 0, .int .i64 0, .int .i64 0, .int .i64 0, .slice none 0 0] (0, 0) _ rfl (by (with_reducible repeat (first | refine blk_drewN ?_ _ | refine blk_drew ?_ | refine blk_alloc ?_ _)); refine blk_put (cs := #[.int .i64 0, .int .i64 0, .int .i64 0, .int .i64 0, .slice none 0 0]) ?_ 4 _ rfl; (with_reducible repeat (first | refine blk_drewN ?_ _ | refine blk_drew ?_ | refine blk_alloc ?_ _)); refine blk_put (cs := #[.int .i64 0, .int .i64 0, .int .i64 0, .int .i64 0, .slice none 0 0]) ?_ 3 _ rfl; (with_reducible repeat (first | refine blk_drewN ?_ _ | refine blk_drew ?_ | refine blk_alloc ?_ _)); refine blk_put (cs := #[.int .i64 0, .int .i64 0, .int .i64 0, .int .i64 0, .slice none 0 0]) ?_ 2 _ rfl; (with_reducible repeat (first | refine blk_drewN ?_ _ | refine blk_drew ?_ | refine blk_alloc ?_ _)); refine blk_put (cs := #[.int .i64 0, .int .i64 0, .int .i64 0, .int .i64 0, .slice none 0 0]) ?_ 1 _ rfl; (with_reducible repeat (first | refine blk_drewN ?_ _ | refine blk_drew ?_ | refine blk_alloc ?_ _)); refine blk_put (cs := #[.int .i64 0, .int .i64 0, .int .i64 0, .int .i64 0, .slice none 0 0]) ?_ 0 _ rfl; (with_reducible repeat (first | refine blk_drewN ?_ _ | refine blk_drew ?_ | refine blk_alloc ?_ _)); exact BK103.out) Try.underlying24 rfl (by kernel_rfl)) rfl ?_
     exact ⟨_, by first | rfl | (simp [errW_none, errW_some] <;> rfl) | (simp only [← hji8]; first | rfl | (simp [errW_none, errW_some] <;> rfl)) | (simp [*, errW_none, errW_some] <;> rfl), by first | exact Kd.R_nil _ _ _ _ _ | exact Kd.N_nil _ _ _ _ _ | exact Kd.V_nil _ _ _ _ _ | exact Kd.Q_nil _ _ _ _ _ | exact Kd.S_nil _ _ _ _ _, by repeat (first | (with_reducible first | exact HB.out | apply below_alloc | apply pw_below_drewN | apply below_drew1 | refine below_set ?_ GE103.out | refine below_set ?_ GE112.out) | exact HB.out)⟩
   rw [if_pos c17] at H
   have c17b0 : (t116 == 0) = true := beq_iff_eq.mpr c17
   have c17b1 : (t116 != 0) = false := bne_eq_false_iff_eq.mpr c17
   clear c17
   replace H := Option.bind_eq_some_iff.mp H
   obtain ⟨t117, A180, H⟩ := H
   replace H : (if t117 = true then (some (Go.bits .and .i64 (rd ((l0.take ((wrap64 (16 * (wrap64 (a1 + 1)))) : Int).toNat).drop ((ji8) : Int).toNat) 0) 15, (Go.bits .andNot .i64 (rd ((l0.take ((wrap64 (16 * (wrap64 (a1 + 1)))) : Int).toNat).drop ((ji8) : Int).toNat) 0) 1152921504606846976) / 16, rd ((l0.take ((wrap64 (16 * (wrap64 (a1 + 1)))) : Int).toNat).drop ((ji8) : Int).toNat) 1, rd ((l0.take ((wrap64 (16 * (wrap64 (a1 + 1)))) : Int).toNat).drop ((ji8) : Int).toNat) 2, t109, 0)) else (some (0, 0, 0, 0, ([] : List Int), 90))) = some (r1, r2, r3, r4, r5, r6) := H
   have A18 := Aside0.mk A180
   clear A180
   by_cases c19 : t117 = true
   · subst c19
     have H1 : (some (Go.bits .and .i64 (rd ((l0.take ((wrap64 (16 * (wrap64 (a1 + 1)))) : Int).toNat).drop ((ji8) : Int).toNat) 0) 15, (Go.bits .andNot .i64 (rd ((l0.take ((wrap64 (16 * (wrap64 (a1 + 1)))) : Int).toNat).drop ((ji8) : Int).toNat) 0) 1152921504606846976) / 16, rd ((l0.take ((wrap64 (16 * (wrap64 (a1 + 1)))) : Int).toNat).drop ((ji8) : Int).toNat) 1, rd ((l0.take ((wrap64 (16 * (wrap64 (a1 + 1)))) : Int).toNat).drop ((ji8) : Int).toNat) 2, t109, 0)) = some (r1, r2, r3, r4, r5, r6) := by rw [if_pos rfl] at H; exact H
     clear H
     have H := H1
     clear H1
     simp only [Option.some.injEq, Prod.mk.injEq] at H
     obtain ⟨rfl, rfl, rfl, rfl, rfl, rfl⟩ := H
     obtain ⟨i020, hi020, _, hsz20, _⟩ := info_parts info3
     obtain ⟨A20, hcut20, hA20, hC20⟩ := print_mid_of (P := Try.prog) (Value.int .i64) 0 22 3 .i64 .i64 Try.underlying22 hi020 hsz20 A0 c0 l0 (ji8) (wrap64 (16 * (wrap64 (a1 + 1)))) (of_decide_eq_true (by first | (with_reducible assumption) | assumption)) (by first | omega | exact of_decide_eq_true (by first | (with_reducible assumption) | assumption)) (of_decide_eq_true (by first | (with_reducible assumption) | assumption)) HC0.out
     have HR104 := Aside0.mk (Kd.C_of_reads (h1 := fun _ => rfl) (hA20 _ (Kd.reads_of_C HR0.out)))
     have HC104 := Aside0.mk hC20
     clear hA20 hC20 hi020 hsz20
     try go_wp2
     have n0_ := Aside0.mk (blk_drew BK103.out)
     have n1_ := Aside0.mk (below_drew1 HB.out)
     clear BK103
     clear HB
     have BK103 := n0_
     have HB := n1_
     clear n0_ n1_
     have p105 : 0 ≤ (0 : Int) := (by omega)
     have q105 : 0 < (((l0.take ((wrap64 (16 * (wrap64 (a1 + 1)))) : Int).toNat).drop ((ji8) : Int).toNat).length : Int) := of_decide_eq_true (by first | (with_reducible assumption) | assumption)
     obtain ⟨ad105, e105, hx105_0⟩ := Kd.at_int HR104.out 0 p105 q105
     have hw105_0 := hx105_0
     (try rw [show ((0 : Int)).toNat = 0 from rfl] at hw105_0)
     (try rw [show 0 * 1 = 0 from rfl] at hw105_0)
     (try rw [Addr.add_zero'] at hw105_0)
     cases e105
     have qi105 : (0 < ((l0.take ((wrap64 (16 * (wrap64 (a1 + 1)))) : Int).toNat).drop ((ji8) : Int).toNat).length) = True := eq_true (by omega)
     (try rw [show ((0 : Int)).toNat = 0 from rfl] at hx105_0)
     (try rw [Addr.add_zero'] at hx105_0)
     replace hx105_0 := kc_ HB.out hx105_0
     replace p105 := eq_true p105
     replace q105 := eq_true q105
     have p106 : 0 ≤ (0 : Int) := (by omega)
     have q106 : 0 < (((l0.take ((wrap64 (16 * (wrap64 (a1 + 1)))) : Int).toNat).drop ((ji8) : Int).toNat).length : Int) := of_decide_eq_true (by first | (with_reducible assumption) | assumption)
     obtain ⟨ad106, e106, hx106_0⟩ := Kd.at_int HR104.out 0 p106 q106
     have hw106_0 := hx106_0
     (try rw [show ((0 : Int)).toNat = 0 from rfl] at hw106_0)
     (try rw [show 0 * 1 = 0 from rfl] at hw106_0)
     (try rw [Addr.add_zero'] at hw106_0)
     obtain rfl : ad105 = ad106 := (by injection e106)
     have qi106 : (0 < ((l0.take ((wrap64 (16 * (wrap64 (a1 + 1)))) : Int).toNat).drop ((ji8) : Int).toNat).length) = True := eq_true (by omega)
     (try rw [show ((0 : Int)).toNat = 0 from rfl] at hx106_0)
     (try rw [Addr.add_zero'] at hx106_0)
     replace hx106_0 := kc_ HB.out hx106_0
     replace p106 := eq_true p106
     replace q106 := eq_true q106
     have p107 : 0 ≤ (1 : Int) := (by omega)
     have q107 : 1 < (((l0.take ((wrap64 (16 * (wrap64 (a1 + 1)))) : Int).toNat).drop ((ji8) : Int).toNat).length : Int) := of_decide_eq_true (by first | (with_reducible assumption) | assumption)
     obtain ⟨ad107, e107, hx107_0⟩ := Kd.at_int HR104.out 1 p107 q107
     have hw107_0 := hx107_0
     (try rw [show ((1 : Int)).toNat = 1 from rfl] at hw107_0)
     (try rw [show 1 * 1 = 1 from rfl] at hw107_0)
     (try simp only [Nat.reduceMul, Nat.reduceEqDiff, Go.Addr.add, ↓reduceIte] at hw107_0)
     obtain rfl : ad105 = ad107 := (by injection e107)
     (try simp only [show (1 : Int).toNat = 1 from rfl, Nat.reduceMul, Nat.reduceEqDiff, Go.Addr.add, ↓reduceIte] at hx107_0)
     have qi107 : (1 < ((l0.take ((wrap64 (16 * (wrap64 (a1 + 1)))) : Int).toNat).drop ((ji8) : Int).toNat).length) = True := eq_true (by omega)
     (try rw [show ((1 : Int)).toNat = 1 from rfl] at hx107_0)
     replace hx107_0 := kc_ HB.out hx107_0
     replace p107 := eq_true p107
     replace q107 := eq_true q107
     have p108 : 0 ≤ (2 : Int) := (by omega)
     have q108 : 2 < (((l0.take ((wrap64 (16 * (wrap64 (a1 + 1)))) : Int).toNat).drop ((ji8) : Int).toNat).length : Int) := of_decide_eq_true (by first | (with_reducible assumption) | assumption)
     obtain ⟨ad108, e108, hx108_0⟩ := Kd.at_int HR104.out 2 p108 q108
     have hw108_0 := hx108_0
     (try rw [show ((2 : Int)).toNat = 2 from rfl] at hw108_0)
     (try rw [show 2 * 1 = 2 from rfl] at hw108_0)
     (try simp only [Nat.reduceMul, Nat.reduceEqDiff, Go.Addr.add, ↓reduceIte] at hw108_0)
     obtain rfl : ad105 = ad108 := (by injection e108)
     (try simp only [show (2 : Int).toNat = 2 from rfl, Nat.reduceMul, Nat.reduceEqDiff, Go.Addr.add, ↓reduceIte] at hx108_0)
     have qi108 : (2 < ((l0.take ((wrap64 (16 * (wrap64 (a1 + 1)))) : Int).toNat).drop ((ji8) : Int).toNat).length) = True := eq_true (by omega)
     (try rw [show ((2 : Int)).toNat = 2 from rfl] at hx108_0)
     replace hx108_0 := kc_ HB.out hx108_0
     replace p108 := eq_true p108
     replace q108 := eq_true q108
     have qz0 : (0 < (wrap64 (16 * wrap64 (a1 + 1))).toNat - ji8.toNat) = True := eq_true (by have hh := of_eq_true qi108; simp only [List.length_drop, List.length_take] at hh; omega)
     have qy0 : ((0 : Int) < (((wrap64 (16 * wrap64 (a1 + 1))).toNat - ji8.toNat : Nat) : Int)) = True := eq_true (by have hh := of_eq_true qi108; simp only [List.length_drop, List.length_take] at hh; omega)
     have qz1 : (1 < (wrap64 (16 * wrap64 (a1 + 1))).toNat - ji8.toNat) = True := eq_true (by have hh := of_eq_true qi108; simp only [List.length_drop, List.length_take] at hh; omega)
     have qy1 : ((1 : Int) < (((wrap64 (16 * wrap64 (a1 + 1))).toNat - ji8.toNat : Nat) : Int)) = True := eq_true (by have hh := of_eq_true qi108; simp only [List.length_drop, List.length_take] at hh; omega)
     have qz2 : (2 < (wrap64 (16 * wrap64 (a1 + 1))).toNat - ji8.toNat) = True := eq_true (by have hh := of_eq_true qi108; simp only [List.length_drop, List.length_take] at hh; omega)
     have qy2 : ((2 : Int) < (((wrap64 (16 * wrap64 (a1 + 1))).toNat - ji8.toNat : Nat) : Int)) = True := eq_true (by have hh := of_eq_true qi108; simp only [List.length_drop, List.length_take] at hh; omega)
     have HLEN := Aside0.mk (show (wrap64 (16 * wrap64 (a1 + 1))).toNat - ji8.toNat = ((l0.take ((wrap64 (16 * (wrap64 (a1 + 1)))) : Int).toNat).drop ((ji8) : Int).toNat).length by simp only [List.length_drop, List.length_take]; omega)
     refine start_ (n := 20) (S := fun w' => w'.cell? ad105 = some (.int .i64 (rd ((l0.take ((wrap64 (16 * (wrap64 (a1 + 1)))) : Int).toNat).drop ((ji8) : Int).toNat) 0)) ∧ w'.cell? ad105 = some (.int .i64 (rd ((l0.take ((wrap64 (16 * (wrap64 (a1 + 1)))) : Int).toNat).drop ((ji8) : Int).toNat) 0)) ∧ w'.cell? ⟨ad105.block, ad105.off + 1, none⟩ = some (.int .i64 (rd ((l0.take ((wrap64 (16 * (wrap64 (a1 + 1)))) : Int).toNat).drop ((ji8) : Int).toNat) 1)) ∧ w'.cell? ⟨ad105.block, ad105.off + 2, none⟩ = some (.int .i64 (rd ((l0.take ((wrap64 (16 * (wrap64 (a1 + 1)))) : Int).toNat).drop ((ji8) : Int).toNat) 2))) (ds := []) #[false, false, false, false, false, false, false, false, false, false, false, false, false, false, false, false, false, false, false, false] (by kernel_rfl) rfl rfl ⟨(kc_ HB.out hw105_0), (kc_ HB.out hw106_0), (kc_ HB.out hw107_0), (kc_ HB.out hw108_0)⟩ (fun hHeld => ?_); refine with_tabW node_Read.tab4 node_Read.bits4 (fun HT_ HW_ => ?_)
     generalize wc.drew = w21 at BK103 HB hx105_0 hx106_0 hx107_0 hx108_0 hHeld ⊢
     refine pure_ (i := 0) (N := some 27) (v := ?_) (a' := ?_) #[true, false, false, false, false, false, false, false, false, false, false, false, false, false, false, false, false, false, false, false] rfl rfl (any_of HT_.out (by kernel_rfl)) (fun _ _ _ h => h) (Or.inl ⟨by rfl, ?_⟩) ?_ ?_
     rotate_left
     · intro w'
       go_simp
       with_reducible rfl
     rotate_left
     · simp only [Act.put, List.setIfInBounds_toArray, List.set_cons_zero, List.set_cons_succ, i64_w, i32_w]
       rfl
     refine pure_ (i := 1) (N := some 28) (v := ?_) (a' := ?_) #[true, true, false, false, false, false, false, false, false, false, false, false, false, false, false, false, false, false, false, false] rfl rfl (any_of HT_.out (by kernel_rfl)) (fun _ _ _ h => h) (Or.inl ⟨by rfl, ?_⟩) ?_ ?_
     rotate_left
     · intro w'
       go_simp
       with_reducible rfl
     rotate_left
     · simp only [Act.put, List.setIfInBounds_toArray, List.set_cons_zero, List.set_cons_succ, i64_w, i32_w]
       rfl
     refine pure_ (i := 4) (N := some 31) (v := ?_) (a' := ?_) #[true, true, false, false, true, false, false, false, false, false, false, false, false, false, false, false, false, false, false, false] rfl rfl (any_of HT_.out (by kernel_rfl)) (fun _ _ _ h => h) (Or.inl ⟨by rfl, ?_⟩) ?_ ?_
     rotate_left
     · intro w'
       go_simp
       with_reducible rfl
     rotate_left
     · simp only [Act.put, List.setIfInBounds_toArray, List.set_cons_zero, List.set_cons_succ, i64_w, i32_w]
       rfl
     refine pure_ (i := 5) (N := some 32) (v := ?_) (a' := ?_) #[true, true, false, false, true, true, false, false, false, false, false, false, false, false, false, false, false, false, false, false] rfl rfl (any_of HT_.out (by kernel_rfl)) (fun _ _ _ h => h) (Or.inl ⟨by rfl, ?_⟩) ?_ ?_
     rotate_left
     · intro w'
       go_simp
       with_reducible rfl
     rotate_left
     · simp only [Act.put, List.setIfInBounds_toArray, List.set_cons_zero, List.set_cons_succ, i64_w, i32_w]
       rfl
     refine pure_ (i := 9) (N := some 36) (v := ?_) (a' := ?_) #[true, true, false, false, true, true, false, false, false, true, false, false, false, false, false, false, false, false, false, false] rfl rfl (any_of HT_.out (by kernel_rfl)) (fun _ _ _ h => h) (Or.inl ⟨by rfl, ?_⟩) ?_ ?_
     rotate_left
     · intro w'
       go_simp
       with_reducible rfl
     rotate_left
     · simp only [Act.put, List.setIfInBounds_toArray, List.set_cons_zero, List.set_cons_succ, i64_w, i32_w]
       rfl
     refine pure_ (i := 10) (N := some 37) (v := ?_) (a' := ?_) #[true, true, false, false, true, true, false, false, false, true, true, false, false, false, false, false, false, false, false, false] rfl rfl (any_of HT_.out (by kernel_rfl)) (fun _ _ _ h => h) (Or.inl ⟨by rfl, ?_⟩) ?_ ?_
     rotate_left
     · intro w'
       go_simp
       with_reducible rfl
     rotate_left
     · simp only [Act.put, List.setIfInBounds_toArray, List.set_cons_zero, List.set_cons_succ, i64_w, i32_w]
       rfl
     refine pure_ (i := 12) (N := some 39) (v := ?_) (a' := ?_) #[true, true, false, false, true, true, false, false, false, true, true, false, true, false, false, false, false, false, false, false] rfl rfl (any_of HT_.out (by kernel_rfl)) (fun _ _ _ h => h) (Or.inl ⟨by rfl, ?_⟩) ?_ ?_
     rotate_left
     · intro w'
       go_simp
       with_reducible rfl
     rotate_left
     · simp only [Act.put, List.setIfInBounds_toArray, List.set_cons_zero, List.set_cons_succ, i64_w, i32_w]
       rfl
     refine pure_ (i := 13) (N := some 40) (v := ?_) (a' := ?_) #[true, true, false, false, true, true, false, false, false, true, true, false, true, true, false, false, false, false, false, false] rfl rfl (any_of HT_.out (by kernel_rfl)) (fun _ _ _ h => h) (Or.inl ⟨by rfl, ?_⟩) ?_ ?_
     rotate_left
     · intro w'
       go_simp
       with_reducible rfl
     rotate_left
     · simp only [Act.put, List.setIfInBounds_toArray, List.set_cons_zero, List.set_cons_succ, i64_w, i32_w]
       rfl
     refine pure_ (i := 15) (N := some 42) (v := ?_) (a' := ?_) #[true, true, false, false, true, true, false, false, false, true, true, false, true, true, false, true, false, false, false, false] rfl rfl (any_of HT_.out (by kernel_rfl)) (fun _ _ _ h => h) (Or.inl ⟨by rfl, ?_⟩) ?_ ?_
     rotate_left
     · intro w'
       go_simp
       with_reducible rfl
     rotate_left
     · simp only [Act.put, List.setIfInBounds_toArray, List.set_cons_zero, List.set_cons_succ, i64_w, i32_w]
       rfl
     refine take_ (i := 2) (N := some 29) (v := ?_) (a' := ?_) #[true, true, true, false, true, true, false, false, false, true, true, false, true, true, false, true, false, false, false, false] rfl rfl (take_ofW HT_.out HW_.out (by kernel_rfl)) (fun _ _ _ h => h) (Or.inl ⟨by rfl, ?_⟩) hHeld ?_ ?_
     rotate_left
     · rintro w' ⟨s0, s1, s2, s3⟩
       go_simp
       with_reducible rfl
     rotate_left
     · simp only [Act.put, List.setIfInBounds_toArray, List.set_cons_zero, List.set_cons_succ, i64_w, i32_w]
       rfl
     refine pure_ (i := 3) (N := some 30) (v := ?_) (a' := ?_) #[true, true, true, true, true, true, false, false, false, true, true, false, true, true, false, true, false, false, false, false] rfl rfl (any_of HT_.out (by kernel_rfl)) (fun _ _ _ h => h) (Or.inl ⟨by rfl, ?_⟩) ?_ ?_
     rotate_left
     · intro w'
       go_simp
       with_reducible rfl
     rotate_left
     · simp only [Act.put, List.setIfInBounds_toArray, List.set_cons_zero, List.set_cons_succ, i64_w, i32_w]
       rfl
     refine take_ (i := 6) (N := some 33) (v := ?_) (a' := ?_) #[true, true, true, true, true, true, true, false, false, true, true, false, true, true, false, true, false, false, false, false] rfl rfl (take_ofW HT_.out HW_.out (by kernel_rfl)) (fun _ _ _ h => h) (Or.inl ⟨by rfl, ?_⟩) hHeld ?_ ?_
     rotate_left
     · rintro w' ⟨s0, s1, s2, s3⟩
       go_simp
       with_reducible rfl
     rotate_left
     · simp only [Act.put, List.setIfInBounds_toArray, List.set_cons_zero, List.set_cons_succ, i64_w, i32_w]
       rfl
     refine pure_ (i := 7) (N := some 34) (v := ?_) (a' := ?_) #[true, true, true, true, true, true, true, true, false, true, true, false, true, true, false, true, false, false, false, false] rfl rfl (any_of HT_.out (by kernel_rfl)) (fun _ _ _ h => h) (Or.inl ⟨by rfl, ?_⟩) ?_ ?_
     rotate_left
     · intro w'
       go_simp
       with_reducible rfl
     rotate_left
     · simp only [Act.put, List.setIfInBounds_toArray, List.set_cons_zero, List.set_cons_succ, i64_w, i32_w]
       rfl
     refine pure_ (i := 8) (N := some 35) (v := ?_) (a' := ?_) #[true, true, true, true, true, true, true, true, true, true, true, false, true, true, false, true, false, false, false, false] rfl rfl (any_of HT_.out (by kernel_rfl)) (fun _ _ _ h => h) (Or.inl ⟨by rfl, ?_⟩) ?_ ?_
     rotate_left
     · intro w'
       go_simp
       with_reducible rfl
     rotate_left
     · simp only [Act.put, List.setIfInBounds_toArray, List.set_cons_zero, List.set_cons_succ, i64_w, i32_w]
       rfl
     refine take_ (i := 11) (N := some 38) (v := ?_) (a' := ?_) #[true, true, true, true, true, true, true, true, true, true, true, true, true, true, false, true, false, false, false, false] rfl rfl (take_ofW HT_.out HW_.out (by kernel_rfl)) (fun _ _ _ h => h) (Or.inl ⟨by rfl, ?_⟩) hHeld ?_ ?_
     rotate_left
     · rintro w' ⟨s0, s1, s2, s3⟩
       go_simp
       with_reducible rfl
     rotate_left
     · simp only [Act.put, List.setIfInBounds_toArray, List.set_cons_zero, List.set_cons_succ, i64_w, i32_w]
       rfl
     refine take_ (i := 14) (N := some 41) (v := ?_) (a' := ?_) #[true, true, true, true, true, true, true, true, true, true, true, true, true, true, true, true, false, false, false, false] rfl rfl (take_ofW HT_.out HW_.out (by kernel_rfl)) (fun _ _ _ h => h) (Or.inl ⟨by rfl, ?_⟩) hHeld ?_ ?_
     rotate_left
     · rintro w' ⟨s0, s1, s2, s3⟩
       go_simp
       with_reducible rfl
     rotate_left
     · simp only [Act.put, List.setIfInBounds_toArray, List.set_cons_zero, List.set_cons_succ, i64_w, i32_w]
       rfl
     refine join_ (σ := Value × Nat) 1 #[true, true, true, true, true, true, true, true, true, true, true, true, true, true, true, true, true, true, true, false] (fun s_ => [(43, s_.1), (7, .pointer (some ⟨s_.2, 0, none⟩)), (44, .agg #[.int .i64 (Go.bits .and .i64 (rd ((l0.take ((wrap64 (16 * (wrap64 (a1 + 1)))) : Int).toNat).drop ((ji8) : Int).toNat) 0) 15), .int .i64 ((Go.bits .andNot .i64 (rd ((l0.take ((wrap64 (16 * (wrap64 (a1 + 1)))) : Int).toNat).drop ((ji8) : Int).toNat) 0) 1152921504606846976) / 16), .int .i64 (rd ((l0.take ((wrap64 (16 * (wrap64 (a1 + 1)))) : Int).toNat).drop ((ji8) : Int).toNat) 1), .int .i64 (rd ((l0.take ((wrap64 (16 * (wrap64 (a1 + 1)))) : Int).toNat).drop ((ji8) : Int).toNat) 2), s_.1])]) (fun s_ w' => (w'.cell? ad105 = some (.int .i64 (rd ((l0.take ((wrap64 (16 * (wrap64 (a1 + 1)))) : Int).toNat).drop ((ji8) : Int).toNat) 0)) ∧ w'.cell? ad105 = some (.int .i64 (rd ((l0.take ((wrap64 (16 * (wrap64 (a1 + 1)))) : Int).toNat).drop ((ji8) : Int).toNat) 0)) ∧ w'.cell? ⟨ad105.block, ad105.off + 1, none⟩ = some (.int .i64 (rd ((l0.take ((wrap64 (16 * (wrap64 (a1 + 1)))) : Int).toNat).drop ((ji8) : Int).toNat) 1)) ∧ w'.cell? ⟨ad105.block, ad105.off + 2, none⟩ = some (.int .i64 (rd ((l0.take ((wrap64 (16 * (wrap64 (a1 + 1)))) : Int).toNat).drop ((ji8) : Int).toNat) 2))) ∧ (Kd.R (Kd.int .i64) 3 w' w.heap.size (fun _ => True) s_.1 t109) ∧ (w'.heap[gb103]? = some (.cells #[.int .i64 0, .int .i64 0, .int .i64 0, .int .i64 0, .slice none 0 0] 24 (0, 0))) ∧ (w'.heap[s_.2]? = some (.cells #[.int .i64 0, .int .i64 0, .int .i64 0, .int .i64 0, .slice none 0 0] 24 (0, 0))) ∧ (w.heap.size ≤ s_.2) ∧ (w.heap.size ≤ s_.2) ∧ (gb103 ≠ s_.2) ∧ (s_.2 ≠ gb103) ∧ (Below w.heap.size w w')) ?_ ?_
     rotate_left
     · intro hCont
       refine two_ (i := 16) (j := 18) (Ni := some 43) (Nj := some 7) #[true, true, true, true, true, true, true, true, true, true, true, true, true, true, true, true, true, false, false, false] #[true, true, true, true, true, true, true, true, true, true, true, true, true, true, true, true, false, false, true, false] rfl rfl rfl rfl (two_of HT_.out (by kernel_rfl)) (by decide) (by decide) (fun K hK => ?_) (fun K hK => ?_)
       · skip
         refine goes_ Try.func45 (by kernel_rfl) rfl #[.slice (some ad105) ((l0.take ((wrap64 (16 * (wrap64 (a1 + 1)))) : Int).toNat).drop ((ji8) : Int).toNat).length (c0 - (ji8).toNat), .int .i64 0] (by rfl) rfl rfl (by (try simp only [List.map_toArray, List.map_cons, List.map_nil]); first | done | (rw [show ((l0.take ((wrap64 (16 * (wrap64 (a1 + 1)))) : Int).toNat).drop ((ji8) : Int).toNat).length = ((wrap64 (16 * (wrap64 (a1 + 1)))).toNat - (ji8).toNat) from (by rw [List.length_drop, List.length_take]; have h_ : ((wrap64 (16 * (wrap64 (a1 + 1)))) : Int) ≤ (l0.length : Int) := of_decide_eq_true (by first | (with_reducible assumption) | assumption); omega)] <;> rfl) | (simp only [hji8]; rfl) | rfl | (simp only [List.length_drop, List.length_take]; rfl)) ?_
         with_reducible refine (fast_Slots.calls _ _ ((l0.take ((wrap64 (16 * (wrap64 (a1 + 1)))) : Int).toNat).drop ((ji8) : Int).toNat) 0 t109 _ ?side1 ?side2 A15.out).mono ?_
         (case side1 => repeat (first | exact (Kd.C_below HR104.out HB.out) | (with_reducible refine Kd.C_alloc ?_ _) | (with_reducible refine Kd.C_drewN ?_ _) | (with_reducible refine Kd.C_drew ?_)))
         (case side2 => exact HC104.out)
         rintro e w22 ⟨v110, rfl, ho0, hb⟩
         refine ⟨_, rfl, ?_⟩
         have n0_ := Aside0.mk (Kd.R_lower ho0 (below_size (qg1_ GE103.out)))
         have n1_ := Aside0.mk (blk_below (g := gb103) (o := .cells #[.int .i64 0, .int .i64 0, .int .i64 0, .int .i64 0, .slice none 0 0] 24 (0, 0)) (qb_ BK103.out) hb)
         have n2_ := Aside0.mk (below_step (qg1_ GE103.out) hb)
         clear BK103
         clear HB
         have HO111 := n0_
         have BK103 := n1_
         have HB := n2_
         clear n0_ n1_ n2_
         (try clear hb)
         (try clear hb2)
         (try clear hk)
         (try clear hi)
         (try clear ho0)
         obtain ⟨Ao23, co23, eo23⟩ := Kd.R_slice HO111.out
         (first | subst eo23 | (injection eo23 with f1_ f2_ f3_; have f4_ := f1_.symm; have f5_ := f3_.symm; clear f1_ f2_ f3_; subst f4_; subst f5_))
         refine hK.out _ _ ⟨(kc_ HB.out hw105_0), (kc_ HB.out hw106_0), (kc_ HB.out hw107_0), (kc_ HB.out hw108_0)⟩ (fun hHeld => ?_)
         clear hK K
         refine norm_ (a' := ?_) ?_ ?_
         rotate_left
         · show Act.put _ (some 43) _ = _
           simp only [Act.put, List.setIfInBounds_toArray, List.set_cons_zero, List.set_cons_succ, i64_w, i32_w]
           rfl
         refine pure_ (i := 17) (N := some 44) (v := ?_) (a' := ?_) #[true, true, true, true, true, true, true, true, true, true, true, true, true, true, true, true, true, true, false, false] rfl rfl (any_of HT_.out (by kernel_rfl)) (fun _ _ _ h => h) (Or.inl ⟨by rfl, ?_⟩) ?_ ?_
         rotate_left
         · intro w'
           go_simp
           with_reducible rfl
         rotate_left
         · simp only [Act.put, List.setIfInBounds_toArray, List.set_cons_zero, List.set_cons_succ, i64_w, i32_w]
           rfl
         refine one_ (i := 18) (N := some 7) #[true, true, true, true, true, true, true, true, true, true, true, true, true, true, true, true, true, true, true, false] rfl rfl (one_of HT_.out (by kernel_rfl)) (by decide) (fun K hK => ?_)
         refine box_step ?hg (N := 7) ?hd (cs := #[.int .i64 0, .int .i64 0, .int .i64 0, .int .i64 0, .slice none 0 0]) (t := 24) ?hr ?_; (case hd => rfl); (case hg => rfl); (case hr => first | (go_simp; done) | (go_simp; rfl))
         intro gb112 hg w24 hbox hb
         have n0_ := Aside0.mk (Kd.R_below (qr_ HO111.out) hb)
         have n1_ := Aside0.mk (blk_below (g := gb103) (o := .cells #[.int .i64 0, .int .i64 0, .int .i64 0, .int .i64 0, .slice none 0 0] 24 (0, 0)) (qb_ BK103.out) hb)
         have n2_ := Aside0.mk (below_step (qg1_ GE103.out) hb)
         have n3_ := Aside0.mk (hbox)
         have n4_ := Aside0.mk ((by rw [hg]; exact (below_size (qg1_ GE103.out)) : w.heap.size ≤ gb112))
         have n5_ := Aside0.mk ((by rw [hg]; exact (below_size (qg1_ GE103.out)) : w.heap.size ≤ gb112))
         have n6_ := Aside0.mk ((by rw [hg]; exact Nat.ne_of_lt (blk_lt (g := gb103) (o := .cells #[.int .i64 0, .int .i64 0, .int .i64 0, .int .i64 0, .slice none 0 0] 24 (0, 0)) (qb_ BK103.out)) : gb103 ≠ gb112))
         have n7_ := Aside0.mk ((by rw [hg]; exact Nat.ne_of_gt (blk_lt (g := gb103) (o := .cells #[.int .i64 0, .int .i64 0, .int .i64 0, .int .i64 0, .slice none 0 0] 24 (0, 0)) (qb_ BK103.out)) : gb112 ≠ gb103))
         clear HO111
         clear BK103
         clear HB
         have HO111 := n0_
         have BK103 := n1_
         have HB := n2_
         have BK112 := n3_
         have GW112 := n4_
         have GE112 := n5_
         have NB103_112 := n6_
         have NB112_103 := n7_
         clear n0_ n1_ n2_ n3_ n4_ n5_ n6_ n7_
         clear hb hbox hg
         refine hK.out _ _ ⟨(kc_ HB.out hw105_0), (kc_ HB.out hw106_0), (kc_ HB.out hw107_0), (kc_ HB.out hw108_0)⟩ (fun hHeld => ?_)
         clear hK K
         refine norm_ (a' := ?_) ?_ ?_
         rotate_left
         · show Act.put _ (some 7) _ = _
           simp only [Act.put, List.setIfInBounds_toArray, List.set_cons_zero, List.set_cons_succ, i64_w, i32_w]
           rfl
         exact norm_ (by simp only [putAll, Act.put, List.setIfInBounds_toArray, List.set_cons_zero, List.set_cons_succ]) (hCont (.slice Ao23 t109.length co23, gb112) _ ⟨hHeld, (qr_ HO111.out), (qb_ BK103.out), (qb_ BK112.out), GW112.out, GE112.out, NB103_112.out, NB112_103.out, (qg2_ GE103.out GE112.out)⟩)
       skip
       refine box_step ?hg (N := 7) ?hd (cs := #[.int .i64 0, .int .i64 0, .int .i64 0, .int .i64 0, .slice none 0 0]) (t := 24) ?hr ?_; (case hd => rfl); (case hg => rfl); (case hr => first | (go_simp; done) | (go_simp; rfl))
       intro gb112 hg w22 hbox hb
       have n0_ := Aside0.mk (blk_below (g := gb103) (o := .cells #[.int .i64 0, .int .i64 0, .int .i64 0, .int .i64 0, .slice none 0 0] 24 (0, 0)) (qb_ BK103.out) hb)
       have n1_ := Aside0.mk (below_step (qg1_ GE103.out) hb)
       have n2_ := Aside0.mk (hbox)
       have n3_ := Aside0.mk ((by rw [hg]; exact (below_size (qg1_ GE103.out)) : w.heap.size ≤ gb112))
       have n4_ := Aside0.mk ((by rw [hg]; exact (below_size (qg1_ GE103.out)) : w.heap.size ≤ gb112))
       have n5_ := Aside0.mk ((by rw [hg]; exact Nat.ne_of_lt (blk_lt (g := gb103) (o := .cells #[.int .i64 0, .int .i64 0, .int .i64 0, .int .i64 0, .slice none 0 0] 24 (0, 0)) (qb_ BK103.out)) : gb103 ≠ gb112))
       have n6_ := Aside0.mk ((by rw [hg]; exact Nat.ne_of_gt (blk_lt (g := gb103) (o := .cells #[.int .i64 0, .int .i64 0, .int .i64 0, .int .i64 0, .slice none 0 0] 24 (0, 0)) (qb_ BK103.out)) : gb112 ≠ gb103))
       clear BK103
       clear HB
       have BK103 := n0_
       have HB := n1_
       have BK112 := n2_
       have GW112 := n3_
       have GE112 := n4_
       have NB103_112 := n5_
       have NB112_103 := n6_
       clear n0_ n1_ n2_ n3_ n4_ n5_ n6_
       clear hb hbox hg
       refine hK.out _ _ ⟨(kc_ HB.out hw105_0), (kc_ HB.out hw106_0), (kc_ HB.out hw107_0), (kc_ HB.out hw108_0)⟩ (fun hHeld => ?_)
       clear hK K
       refine norm_ (a' := ?_) ?_ ?_
       rotate_left
       · show Act.put _ (some 7) _ = _
         simp only [Act.put, List.setIfInBounds_toArray, List.set_cons_zero, List.set_cons_succ, i64_w, i32_w]
         rfl
       refine one_ (i := 16) (N := some 43) #[true, true, true, true, true, true, true, true, true, true, true, true, true, true, true, true, true, false, true, false] rfl rfl (one_of HT_.out (by kernel_rfl)) (by decide) (fun K hK => ?_)
       refine goes_ Try.func45 (by kernel_rfl) rfl #[.slice (some ad105) ((l0.take ((wrap64 (16 * (wrap64 (a1 + 1)))) : Int).toNat).drop ((ji8) : Int).toNat).length (c0 - (ji8).toNat), .int .i64 0] (by rfl) rfl rfl (by (try simp only [List.map_toArray, List.map_cons, List.map_nil]); first | done | (rw [show ((l0.take ((wrap64 (16 * (wrap64 (a1 + 1)))) : Int).toNat).drop ((ji8) : Int).toNat).length = ((wrap64 (16 * (wrap64 (a1 + 1)))).toNat - (ji8).toNat) from (by rw [List.length_drop, List.length_take]; have h_ : ((wrap64 (16 * (wrap64 (a1 + 1)))) : Int) ≤ (l0.length : Int) := of_decide_eq_true (by first | (with_reducible assumption) | assumption); omega)] <;> rfl) | (simp only [hji8]; rfl) | rfl | (simp only [List.length_drop, List.length_take]; rfl)) ?_
       with_reducible refine (fast_Slots.calls _ _ ((l0.take ((wrap64 (16 * (wrap64 (a1 + 1)))) : Int).toNat).drop ((ji8) : Int).toNat) 0 t109 _ ?side1 ?side2 A15.out).mono ?_
       (case side1 => repeat (first | exact (Kd.C_below HR104.out HB.out) | (with_reducible refine Kd.C_alloc ?_ _) | (with_reducible refine Kd.C_drewN ?_ _) | (with_reducible refine Kd.C_drew ?_)))
       (case side2 => exact HC104.out)
       rintro e w23 ⟨v110, rfl, ho0, hb⟩
       refine ⟨_, rfl, ?_⟩
       have n0_ := Aside0.mk (Kd.R_lower ho0 (below_size (qg2_ GE103.out GE112.out)))
       have n1_ := Aside0.mk (blk_below (g := gb103) (o := .cells #[.int .i64 0, .int .i64 0, .int .i64 0, .int .i64 0, .slice none 0 0] 24 (0, 0)) (qb_ BK103.out) hb)
       have n2_ := Aside0.mk (blk_below (g := gb112) (o := .cells #[.int .i64 0, .int .i64 0, .int .i64 0, .int .i64 0, .slice none 0 0] 24 (0, 0)) (qb_ BK112.out) hb)
       have n3_ := Aside0.mk (below_step (qg2_ GE103.out GE112.out) hb)
       clear BK103
       clear BK112
       clear HB
       have HO111 := n0_
       have BK103 := n1_
       have BK112 := n2_
       have HB := n3_
       clear n0_ n1_ n2_ n3_
       (try clear hb)
       (try clear hb2)
       (try clear hk)
       (try clear hi)
       (try clear ho0)
       obtain ⟨Ao24, co24, eo24⟩ := Kd.R_slice HO111.out
       (first | subst eo24 | (injection eo24 with f1_ f2_ f3_; have f4_ := f1_.symm; have f5_ := f3_.symm; clear f1_ f2_ f3_; subst f4_; subst f5_))
       refine hK.out _ _ ⟨(kc_ HB.out hw105_0), (kc_ HB.out hw106_0), (kc_ HB.out hw107_0), (kc_ HB.out hw108_0)⟩ (fun hHeld => ?_)
       clear hK K
       refine norm_ (a' := ?_) ?_ ?_
       rotate_left
       · show Act.put _ (some 43) _ = _
         simp only [Act.put, List.setIfInBounds_toArray, List.set_cons_zero, List.set_cons_succ, i64_w, i32_w]
         rfl
       refine pure_ (i := 17) (N := some 44) (v := ?_) (a' := ?_) #[true, true, true, true, true, true, true, true, true, true, true, true, true, true, true, true, true, true, true, false] rfl rfl (any_of HT_.out (by kernel_rfl)) (fun _ _ _ h => h) (Or.inl ⟨by rfl, ?_⟩) ?_ ?_
       rotate_left
       · intro w'
         go_simp
         with_reducible rfl
       rotate_left
       · simp only [Act.put, List.setIfInBounds_toArray, List.set_cons_zero, List.set_cons_succ, i64_w, i32_w]
         rfl
       exact norm_ (by simp only [putAll, Act.put, List.setIfInBounds_toArray, List.set_cons_zero, List.set_cons_succ]) (hCont (.slice Ao24 t109.length co24, gb112) _ ⟨hHeld, (qr_ HO111.out), (qb_ BK103.out), (qb_ BK112.out), GW112.out, GE112.out, NB103_112.out, NB112_103.out, (qg2_ GE103.out GE112.out)⟩)
     rintro ⟨v110, gb112⟩ w25 ⟨hS_, h0_, h1_, h2_, h3_, h4_, h5_, h6_, h7_⟩
     have n0_ : Aside0 (Kd.R (Kd.int .i64) 3 w25 w.heap.size (fun _ => True) v110 t109) := ⟨h0_⟩
     have n1_ : Aside0 (w25.heap[gb103]? = some (.cells #[.int .i64 0, .int .i64 0, .int .i64 0, .int .i64 0, .slice none 0 0] 24 (0, 0))) := ⟨h1_⟩
     have n2_ : Aside0 (w25.heap[gb112]? = some (.cells #[.int .i64 0, .int .i64 0, .int .i64 0, .int .i64 0, .slice none 0 0] 24 (0, 0))) := ⟨h2_⟩
     have n3_ : Aside0 (w.heap.size ≤ gb112) := ⟨h3_⟩
     have n4_ : Aside0 (w.heap.size ≤ gb112) := ⟨h4_⟩
     have n5_ : Aside0 (gb103 ≠ gb112) := ⟨h5_⟩
     have n6_ : Aside0 (gb112 ≠ gb103) := ⟨h6_⟩
     have n7_ : Aside0 (Below w.heap.size w w25) := ⟨h7_⟩
     clear BK103
     clear HB
     clear h0_ h1_ h2_ h3_ h4_ h5_ h6_ h7_
     have HO111 := n0_
     have BK103 := n1_
     have BK112 := n2_
     have GW112 := n3_
     have GE112 := n4_
     have NB103_112 := n5_
     have NB112_103 := n6_
     have HB := n7_
     clear n0_ n1_ n2_ n3_ n4_ n5_ n6_ n7_
     have hHeld : w25.cell? ad105 = some (.int .i64 (rd ((l0.take ((wrap64 (16 * (wrap64 (a1 + 1)))) : Int).toNat).drop ((ji8) : Int).toNat) 0)) ∧ w25.cell? ad105 = some (.int .i64 (rd ((l0.take ((wrap64 (16 * (wrap64 (a1 + 1)))) : Int).toNat).drop ((ji8) : Int).toNat) 0)) ∧ w25.cell? ⟨ad105.block, ad105.off + 1, none⟩ = some (.int .i64 (rd ((l0.take ((wrap64 (16 * (wrap64 (a1 + 1)))) : Int).toNat).drop ((ji8) : Int).toNat) 1)) ∧ w25.cell? ⟨ad105.block, ad105.off + 2, none⟩ = some (.int .i64 (rd ((l0.take ((wrap64 (16 * (wrap64 (a1 + 1)))) : Int).toNat).drop ((ji8) : Int).toNat) 2)) := hS_
     obtain ⟨Ao26, co26, eo26⟩ := Kd.R_slice HO111.out
     (first | subst eo26 | (injection eo26 with f1_ f2_ f3_; have f4_ := f1_.symm; have f5_ := f3_.symm; clear f1_ f2_ f3_; subst f4_; subst f5_))
     refine norm_ (a' := ?_) ?_ ?_
     rotate_left
     · simp only [putAll, Act.put, List.setIfInBounds_toArray, List.set_cons_zero, List.set_cons_succ]
       rfl
     refine one_ (i := 19) (N := none) #[true, true, true, true, true, true, true, true, true, true, true, true, true, true, true, true, true, true, true, true] rfl rfl (one_of HT_.out (by kernel_rfl)) (by decide) (fun K hK => ?_)
     have hs27 : w25.cell? ⟨gb112, 0, none⟩ = some (.int .i64 0) := (blk_cell BK112.out 0).trans rfl
     have hfs27 := blk_frozen BK112.out 0
     have hns27_0 := NB103_112.out
     have hms27_0 := NB112_103.out
     have hs28 : w25.cell? ⟨gb112, 1, none⟩ = some (.int .i64 0) := (blk_cell BK112.out 1).trans rfl
     have hfs28 := blk_frozen BK112.out 1
     have hns28_0 := NB103_112.out
     have hms28_0 := NB112_103.out
     have hs29 : w25.cell? ⟨gb112, 2, none⟩ = some (.int .i64 0) := (blk_cell BK112.out 2).trans rfl
     have hfs29 := blk_frozen BK112.out 2
     have hns29_0 := NB103_112.out
     have hms29_0 := NB112_103.out
     have hs30 : w25.cell? ⟨gb112, 3, none⟩ = some (.int .i64 0) := (blk_cell BK112.out 3).trans rfl
     have hfs30 := blk_frozen BK112.out 3
     have hns30_0 := NB103_112.out
     have hms30_0 := NB112_103.out
     have hs31 : w25.cell? ⟨gb112, 4, none⟩ = some (.slice none 0 0) := (blk_cell BK112.out 4).trans rfl
     have hfs31 := blk_frozen BK112.out 4
     have hns31_0 := NB103_112.out
     have hms31_0 := NB112_103.out
     refine skip_ (w1 := ?_) (by rfl) rfl ?_ ?_
     rotate_left
     · go_simp
       rfl
     refine hK.out _ _ ⟨((cell_far (p := ⟨gb112, _, none⟩) (by first | exact Nat.ne_of_lt (Nat.lt_of_lt_of_le (kl_ hw105_0) GW112.out) | (rw [add_block]; exact Nat.ne_of_lt (Nat.lt_of_lt_of_le (kl_ hw105_0) GW112.out)) | (show (Addr.add _ _).block ≠ _; rw [add_block]; exact Nat.ne_of_lt (Nat.lt_of_lt_of_le (kl_ hw105_0) GW112.out)) | (dsimp only; exact Nat.ne_of_lt (Nat.lt_of_lt_of_le (kl_ hw105_0) GW112.out))) _).trans (((cell_far (p := ⟨gb112, _, none⟩) (by first | exact Nat.ne_of_lt (Nat.lt_of_lt_of_le (kl_ hw105_0) GW112.out) | (rw [add_block]; exact Nat.ne_of_lt (Nat.lt_of_lt_of_le (kl_ hw105_0) GW112.out)) | (show (Addr.add _ _).block ≠ _; rw [add_block]; exact Nat.ne_of_lt (Nat.lt_of_lt_of_le (kl_ hw105_0) GW112.out)) | (dsimp only; exact Nat.ne_of_lt (Nat.lt_of_lt_of_le (kl_ hw105_0) GW112.out))) _).trans (((cell_far (p := ⟨gb112, _, none⟩) (by first | exact Nat.ne_of_lt (Nat.lt_of_lt_of_le (kl_ hw105_0) GW112.out) | (rw [add_block]; exact Nat.ne_of_lt (Nat.lt_of_lt_of_le (kl_ hw105_0) GW112.out)) | (show (Addr.add _ _).block ≠ _; rw [add_block]; exact Nat.ne_of_lt (Nat.lt_of_lt_of_le (kl_ hw105_0) GW112.out)) | (dsimp only; exact Nat.ne_of_lt (Nat.lt_of_lt_of_le (kl_ hw105_0) GW112.out))) _).trans (((cell_far (p := ⟨gb112, _, none⟩) (by first | exact Nat.ne_of_lt (Nat.lt_of_lt_of_le (kl_ hw105_0) GW112.out) | (rw [add_block]; exact Nat.ne_of_lt (Nat.lt_of_lt_of_le (kl_ hw105_0) GW112.out)) | (show (Addr.add _ _).block ≠ _; rw [add_block]; exact Nat.ne_of_lt (Nat.lt_of_lt_of_le (kl_ hw105_0) GW112.out)) | (dsimp only; exact Nat.ne_of_lt (Nat.lt_of_lt_of_le (kl_ hw105_0) GW112.out))) _).trans (((cell_far (p := ⟨gb112, _, none⟩) (by first | exact Nat.ne_of_lt (Nat.lt_of_lt_of_le (kl_ hw105_0) GW112.out) | (rw [add_block]; exact Nat.ne_of_lt (Nat.lt_of_lt_of_le (kl_ hw105_0) GW112.out)) | (show (Addr.add _ _).block ≠ _; rw [add_block]; exact Nat.ne_of_lt (Nat.lt_of_lt_of_le (kl_ hw105_0) GW112.out)) | (dsimp only; exact Nat.ne_of_lt (Nat.lt_of_lt_of_le (kl_ hw105_0) GW112.out))) _).trans (hHeld.1)))))))))), ((cell_far (p := ⟨gb112, _, none⟩) (by first | exact Nat.ne_of_lt (Nat.lt_of_lt_of_le (kl_ hw106_0) GW112.out) | (rw [add_block]; exact Nat.ne_of_lt (Nat.lt_of_lt_of_le (kl_ hw106_0) GW112.out)) | (show (Addr.add _ _).block ≠ _; rw [add_block]; exact Nat.ne_of_lt (Nat.lt_of_lt_of_le (kl_ hw106_0) GW112.out)) | (dsimp only; exact Nat.ne_of_lt (Nat.lt_of_lt_of_le (kl_ hw106_0) GW112.out))) _).trans (((cell_far (p := ⟨gb112, _, none⟩) (by first | exact Nat.ne_of_lt (Nat.lt_of_lt_of_le (kl_ hw106_0) GW112.out) | (rw [add_block]; exact Nat.ne_of_lt (Nat.lt_of_lt_of_le (kl_ hw106_0) GW112.out)) | (show (Addr.add _ _).block ≠ _; rw [add_block]; exact Nat.ne_of_lt (Nat.lt_of_lt_of_le (kl_ hw106_0) GW112.out)) | (dsimp only; exact Nat.ne_of_lt (Nat.lt_of_lt_of_le (kl_ hw106_0) GW112.out))) _).trans (((cell_far (p := ⟨gb112, _, none⟩) (by first | exact Nat.ne_of_lt (Nat.lt_of_lt_of_le (kl_ hw106_0) GW112.out) | (rw [add_block]; exact Nat.ne_of_lt (Nat.lt_of_lt_of_le (kl_ hw106_0) GW112.out)) | (show (Addr.add _ _).block ≠ _; rw [add_block]; exact Nat.ne_of_lt (Nat.lt_of_lt_of_le (kl_ hw106_0) GW112.out)) | (dsimp only; exact Nat.ne_of_lt (Nat.lt_of_lt_of_le (kl_ hw106_0) GW112.out))) _).trans (((cell_far (p := ⟨gb112, _, none⟩) (by first | exact Nat.ne_of_lt (Nat.lt_of_lt_of_le (kl_ hw106_0) GW112.out) | (rw [add_block]; exact Nat.ne_of_lt (Nat.lt_of_lt_of_le (kl_ hw106_0) GW112.out)) | (show (Addr.add _ _).block ≠ _; rw [add_block]; exact Nat.ne_of_lt (Nat.lt_of_lt_of_le (kl_ hw106_0) GW112.out)) | (dsimp only; exact Nat.ne_of_lt (Nat.lt_of_lt_of_le (kl_ hw106_0) GW112.out))) _).trans (((cell_far (p := ⟨gb112, _, none⟩) (by first | exact Nat.ne_of_lt (Nat.lt_of_lt_of_le (kl_ hw106_0) GW112.out) | (rw [add_block]; exact Nat.ne_of_lt (Nat.lt_of_lt_of_le (kl_ hw106_0) GW112.out)) | (show (Addr.add _ _).block ≠ _; rw [add_block]; exact Nat.ne_of_lt (Nat.lt_of_lt_of_le (kl_ hw106_0) GW112.out)) | (dsimp only; exact Nat.ne_of_lt (Nat.lt_of_lt_of_le (kl_ hw106_0) GW112.out))) _).trans (hHeld.2.1)))))))))), ((cell_far (p := ⟨gb112, _, none⟩) (by first | exact Nat.ne_of_lt (Nat.lt_of_lt_of_le (kl_ hw107_0) GW112.out) | (rw [add_block]; exact Nat.ne_of_lt (Nat.lt_of_lt_of_le (kl_ hw107_0) GW112.out)) | (show (Addr.add _ _).block ≠ _; rw [add_block]; exact Nat.ne_of_lt (Nat.lt_of_lt_of_le (kl_ hw107_0) GW112.out)) | (dsimp only; exact Nat.ne_of_lt (Nat.lt_of_lt_of_le (kl_ hw107_0) GW112.out))) _).trans (((cell_far (p := ⟨gb112, _, none⟩) (by first | exact Nat.ne_of_lt (Nat.lt_of_lt_of_le (kl_ hw107_0) GW112.out) | (rw [add_block]; exact Nat.ne_of_lt (Nat.lt_of_lt_of_le (kl_ hw107_0) GW112.out)) | (show (Addr.add _ _).block ≠ _; rw [add_block]; exact Nat.ne_of_lt (Nat.lt_of_lt_of_le (kl_ hw107_0) GW112.out)) | (dsimp only; exact Nat.ne_of_lt (Nat.lt_of_lt_of_le (kl_ hw107_0) GW112.out))) _).trans (((cell_far (p := ⟨gb112, _, none⟩) (by first | exact Nat.ne_of_lt (Nat.lt_of_lt_of_le (kl_ hw107_0) GW112.out) | (rw [add_block]; exact Nat.ne_of_lt (Nat.lt_of_lt_of_le (kl_ hw107_0) GW112.out)) | (show (Addr.add _ _).block ≠ _; rw [add_block]; exact Nat.ne_of_lt (Nat.lt_of_lt_of_le (kl_ hw107_0) GW112.out)) | (dsimp only; exact Nat.ne_of_lt (Nat.lt_of_lt_of_le (kl_ hw107_0) GW112.out))) _).trans (((cell_far (p := ⟨gb112, _, none⟩) (by first | exact Nat.ne_of_lt (Nat.lt_of_lt_of_le (kl_ hw107_0) GW112.out) | (rw [add_block]; exact Nat.ne_of_lt (Nat.lt_of_lt_of_le (kl_ hw107_0) GW112.out)) | (show (Addr.add _ _).block ≠ _; rw [add_block]; exact Nat.ne_of_lt (Nat.lt_of_lt_of_le (kl_ hw107_0) GW112.out)) | (dsimp only; exact Nat.ne_of_lt (Nat.lt_of_lt_of_le (kl_ hw107_0) GW112.out))) _).trans (((cell_far (p := ⟨gb112, _, none⟩) (by first | exact Nat.ne_of_lt (Nat.lt_of_lt_of_le (kl_ hw107_0) GW112.out) | (rw [add_block]; exact Nat.ne_of_lt (Nat.lt_of_lt_of_le (kl_ hw107_0) GW112.out)) | (show (Addr.add _ _).block ≠ _; rw [add_block]; exact Nat.ne_of_lt (Nat.lt_of_lt_of_le (kl_ hw107_0) GW112.out)) | (dsimp only; exact Nat.ne_of_lt (Nat.lt_of_lt_of_le (kl_ hw107_0) GW112.out))) _).trans (hHeld.2.2.1)))))))))), ((cell_far (p := ⟨gb112, _, none⟩) (by first | exact Nat.ne_of_lt (Nat.lt_of_lt_of_le (kl_ hw108_0) GW112.out) | (rw [add_block]; exact Nat.ne_of_lt (Nat.lt_of_lt_of_le (kl_ hw108_0) GW112.out)) | (show (Addr.add _ _).block ≠ _; rw [add_block]; exact Nat.ne_of_lt (Nat.lt_of_lt_of_le (kl_ hw108_0) GW112.out)) | (dsimp only; exact Nat.ne_of_lt (Nat.lt_of_lt_of_le (kl_ hw108_0) GW112.out))) _).trans (((cell_far (p := ⟨gb112, _, none⟩) (by first | exact Nat.ne_of_lt (Nat.lt_of_lt_of_le (kl_ hw108_0) GW112.out) | (rw [add_block]; exact Nat.ne_of_lt (Nat.lt_of_lt_of_le (kl_ hw108_0) GW112.out)) | (show (Addr.add _ _).block ≠ _; rw [add_block]; exact Nat.ne_of_lt (Nat.lt_of_lt_of_le (kl_ hw108_0) GW112.out)) | (dsimp only; exact Nat.ne_of_lt (Nat.lt_of_lt_of_le (kl_ hw108_0) GW112.out))) _).trans (((cell_far (p := ⟨gb112, _, none⟩) (by first | exact Nat.ne_of_lt (Nat.lt_of_lt_of_le (kl_ hw108_0) GW112.out) | (rw [add_block]; exact Nat.ne_of_lt (Nat.lt_of_lt_of_le (kl_ hw108_0) GW112.out)) | (show (Addr.add _ _).block ≠ _; rw [add_block]; exact Nat.ne_of_lt (Nat.lt_of_lt_of_le (kl_ hw108_0) GW112.out)) | (dsimp only; exact Nat.ne_of_lt (Nat.lt_of_lt_of_le (kl_ hw108_0) GW112.out))) _).trans (((cell_far (p := ⟨gb112, _, none⟩) (by first | exact Nat.ne_of_lt (Nat.lt_of_lt_of_le (kl_ hw108_0) GW112.out) | (rw [add_block]; exact Nat.ne_of_lt (Nat.lt_of_lt_of_le (kl_ hw108_0) GW112.out)) | (show (Addr.add _ _).block ≠ _; rw [add_block]; exact Nat.ne_of_lt (Nat.lt_of_lt_of_le (kl_ hw108_0) GW112.out)) | (dsimp only; exact Nat.ne_of_lt (Nat.lt_of_lt_of_le (kl_ hw108_0) GW112.out))) _).trans (((cell_far (p := ⟨gb112, _, none⟩) (by first | exact Nat.ne_of_lt (Nat.lt_of_lt_of_le (kl_ hw108_0) GW112.out) | (rw [add_block]; exact Nat.ne_of_lt (Nat.lt_of_lt_of_le (kl_ hw108_0) GW112.out)) | (show (Addr.add _ _).block ≠ _; rw [add_block]; exact Nat.ne_of_lt (Nat.lt_of_lt_of_le (kl_ hw108_0) GW112.out)) | (dsimp only; exact Nat.ne_of_lt (Nat.lt_of_lt_of_le (kl_ hw108_0) GW112.out))) _).trans (hHeld.2.2.2))))))))))⟩ (fun hHeld => ?_)
     clear hK K
     refine done_ (done_of HT_.out (by kernel_rfl)) ?_
     have hnb32 := NB112_103.out
     have hnc32 := NB103_112.out
     have hcz33_0 : w25.cell? ⟨gb112, 0, none⟩ = some (.int .i64 0) := (blk_cell BK112.out 0).trans rfl
     have hcz33_1 : w25.cell? ⟨gb112, 1, none⟩ = some (.int .i64 0) := (blk_cell BK112.out 1).trans rfl
     have hcz33_2 : w25.cell? ⟨gb112, 2, none⟩ = some (.int .i64 0) := (blk_cell BK112.out 2).trans rfl
     have hcz33_3 : w25.cell? ⟨gb112, 3, none⟩ = some (.int .i64 0) := (blk_cell BK112.out 3).trans rfl
     have hcz33_4 : w25.cell? ⟨gb112, 4, none⟩ = some (.slice none 0 0) := (blk_cell BK112.out 4).trans rfl
     have hfz33_0 := blk_frozen BK112.out 0
     have hfz33_1 := blk_frozen BK112.out 1
     have hfz33_2 := blk_frozen BK112.out 2
     have hfz33_3 := blk_frozen BK112.out 3
     have hfz33_4 := blk_frozen BK112.out 4
     try go_wp2_with (first | ((with_reducible refine gate_callee (f := 46) rfl ?_); refine goesL_ (some 47) rfl rfl Try.func46 (by kernel_rfl) rfl #[.agg #[.int .i64 (Go.bits .and .i64 (rd ((l0.take ((wrap64 (16 * (wrap64 (a1 + 1)))) : Int).toNat).drop ((ji8) : Int).toNat) 0) 15), .int .i64 ((Go.bits .andNot .i64 (rd ((l0.take ((wrap64 (16 * (wrap64 (a1 + 1)))) : Int).toNat).drop ((ji8) : Int).toNat) 0) 1152921504606846976) / 16), .int .i64 (rd ((l0.take ((wrap64 (16 * (wrap64 (a1 + 1)))) : Int).toNat).drop ((ji8) : Int).toNat) 1), .int .i64 (rd ((l0.take ((wrap64 (16 * (wrap64 (a1 + 1)))) : Int).toNat).drop ((ji8) : Int).toNat) 2), .slice Ao26 t109.length co26]] rfl (by (try simp only [List.map_toArray, List.map_cons, List.map_nil]); first | done | (simp only [hji8]; rfl) | rfl | (simp only [List.length_drop, List.length_take]; rfl)) ?_; (with_reducible refine (node_Words.calls (Go.bits .and .i64 (rd ((l0.take ((wrap64 (16 * (wrap64 (a1 + 1)))) : Int).toNat).drop ((ji8) : Int).toNat) 0) 15) ((Go.bits .andNot .i64 (rd ((l0.take ((wrap64 (16 * (wrap64 (a1 + 1)))) : Int).toNat).drop ((ji8) : Int).toNat) 0) 1152921504606846976) / 16) (rd ((l0.take ((wrap64 (16 * (wrap64 (a1 + 1)))) : Int).toNat).drop ((ji8) : Int).toNat) 1) (rd ((l0.take ((wrap64 (16 * (wrap64 (a1 + 1)))) : Int).toNat).drop ((ji8) : Int).toNat) 2) _ _ t109 t113 t116 _ ?side1 ?side2 A16.out).mono ?_); (case side1 => refine (Kd.R_reads' (e := 3) (base := w.heap.size) (ok := fun k_ => True) (n := t109.length) (c := co26) ?_).2.2; exact (by (with_reducible repeat (first | apply Kd.R_alloc | apply Kd.R_drewN | apply Kd.R_drew)); exact (Kd.R_mono (Kd.R_far (p := ⟨gb112, 4, none⟩) (Kd.R_far (p := ⟨gb112, 3, none⟩) (Kd.R_far (p := ⟨gb112, 2, none⟩) (Kd.R_far (p := ⟨gb112, 1, none⟩) (Kd.R_far (p := ⟨gb112, 0, none⟩) (Kd.R_types HO111.out BK112.out (by decide)) (fun _ hk => hk.2) (.int .i64 (Go.bits .and .i64 (rd ((l0.take ((wrap64 (16 * (wrap64 (a1 + 1)))) : Int).toNat).drop ((ji8) : Int).toNat) 0) 15))) (fun _ hk => hk.2) (.int .i64 ((Go.bits .andNot .i64 (rd ((l0.take ((wrap64 (16 * (wrap64 (a1 + 1)))) : Int).toNat).drop ((ji8) : Int).toNat) 0) 1152921504606846976) / 16))) (fun _ hk => hk.2) (.int .i64 (rd ((l0.take ((wrap64 (16 * (wrap64 (a1 + 1)))) : Int).toNat).drop ((ji8) : Int).toNat) 1))) (fun _ hk => hk.2) (.int .i64 (rd ((l0.take ((wrap64 (16 * (wrap64 (a1 + 1)))) : Int).toNat).drop ((ji8) : Int).toNat) 2))) (fun _ hk => hk.2) (.slice Ao26 t109.length co26)) (fun _ h_ => h_.1)))); (case side2 => exact (Kd.R_reads' HO111.out).2.1); rintro e w34 ⟨v114, rfl, ho0, hb⟩; refine ⟨_, rfl, ?_⟩; have n0_ := Aside0.mk (Kd.R_elder' (by (with_reducible repeat (first | apply Kd.R_alloc | apply Kd.R_drewN | apply Kd.R_drew)); exact (Kd.R_mono (Kd.R_far (p := ⟨gb112, 4, none⟩) (Kd.R_far (p := ⟨gb112, 3, none⟩) (Kd.R_far (p := ⟨gb112, 2, none⟩) (Kd.R_far (p := ⟨gb112, 1, none⟩) (Kd.R_far (p := ⟨gb112, 0, none⟩) (Kd.R_types HO111.out BK112.out (by decide)) (fun _ hk => hk.2) (.int .i64 (Go.bits .and .i64 (rd ((l0.take ((wrap64 (16 * (wrap64 (a1 + 1)))) : Int).toNat).drop ((ji8) : Int).toNat) 0) 15))) (fun _ hk => hk.2) (.int .i64 ((Go.bits .andNot .i64 (rd ((l0.take ((wrap64 (16 * (wrap64 (a1 + 1)))) : Int).toNat).drop ((ji8) : Int).toNat) 0) 1152921504606846976) / 16))) (fun _ hk => hk.2) (.int .i64 (rd ((l0.take ((wrap64 (16 * (wrap64 (a1 + 1)))) : Int).toNat).drop ((ji8) : Int).toNat) 1))) (fun _ hk => hk.2) (.int .i64 (rd ((l0.take ((wrap64 (16 * (wrap64 (a1 + 1)))) : Int).toNat).drop ((ji8) : Int).toNat) 2))) (fun _ hk => hk.2) (.slice Ao26 t109.length co26)) (fun _ h_ => h_.1))) (Kd.R_base ho0) hb); have n1_ := Aside0.mk (Kd.R_lower (Kd.R_new' ho0 (Kd.R_lt (by (with_reducible repeat (first | apply Kd.R_alloc | apply Kd.R_drewN | apply Kd.R_drew)); exact (Kd.R_mono (Kd.R_far (p := ⟨gb112, 4, none⟩) (Kd.R_far (p := ⟨gb112, 3, none⟩) (Kd.R_far (p := ⟨gb112, 2, none⟩) (Kd.R_far (p := ⟨gb112, 1, none⟩) (Kd.R_far (p := ⟨gb112, 0, none⟩) (Kd.R_types HO111.out BK112.out (by decide)) (fun _ hk => hk.2) (.int .i64 (Go.bits .and .i64 (rd ((l0.take ((wrap64 (16 * (wrap64 (a1 + 1)))) : Int).toNat).drop ((ji8) : Int).toNat) 0) 15))) (fun _ hk => hk.2) (.int .i64 ((Go.bits .andNot .i64 (rd ((l0.take ((wrap64 (16 * (wrap64 (a1 + 1)))) : Int).toNat).drop ((ji8) : Int).toNat) 0) 1152921504606846976) / 16))) (fun _ hk => hk.2) (.int .i64 (rd ((l0.take ((wrap64 (16 * (wrap64 (a1 + 1)))) : Int).toNat).drop ((ji8) : Int).toNat) 1))) (fun _ hk => hk.2) (.int .i64 (rd ((l0.take ((wrap64 (16 * (wrap64 (a1 + 1)))) : Int).toNat).drop ((ji8) : Int).toNat) 2))) (fun _ hk => hk.2) (.slice Ao26 t109.length co26)) (fun _ h_ => h_.1))))) (below_size (qg2_ GE103.out GE112.out))); have n2_ := Aside0.mk (blk_below (g := gb103) (o := .cells #[.int .i64 0, .int .i64 0, .int .i64 0, .int .i64 0, .slice none 0 0] 24 (0, 0)) (by (with_reducible repeat (first | refine blk_drewN ?_ _ | refine blk_drew ?_ | refine blk_alloc ?_ _)); refine blk_far ?_ NB103_112.out _; (with_reducible repeat (first | refine blk_drewN ?_ _ | refine blk_drew ?_ | refine blk_alloc ?_ _)); refine blk_far ?_ NB103_112.out _; (with_reducible repeat (first | refine blk_drewN ?_ _ | refine blk_drew ?_ | refine blk_alloc ?_ _)); refine blk_far ?_ NB103_112.out _; (with_reducible repeat (first | refine blk_drewN ?_ _ | refine blk_drew ?_ | refine blk_alloc ?_ _)); refine blk_far ?_ NB103_112.out _; (with_reducible repeat (first | refine blk_drewN ?_ _ | refine blk_drew ?_ | refine blk_alloc ?_ _)); refine blk_far ?_ NB103_112.out _; (with_reducible repeat (first | refine blk_drewN ?_ _ | refine blk_drew ?_ | refine blk_alloc ?_ _)); exact BK103.out) hb); have n3_ := Aside0.mk (blk_below (g := gb112) (o := .cells #[.int .i64 (Go.bits .and .i64 (rd ((l0.take ((wrap64 (16 * (wrap64 (a1 + 1)))) : Int).toNat).drop ((ji8) : Int).toNat) 0) 15), .int .i64 ((Go.bits .andNot .i64 (rd ((l0.take ((wrap64 (16 * (wrap64 (a1 + 1)))) : Int).toNat).drop ((ji8) : Int).toNat) 0) 1152921504606846976) / 16), .int .i64 (rd ((l0.take ((wrap64 (16 * (wrap64 (a1 + 1)))) : Int).toNat).drop ((ji8) : Int).toNat) 1), .int .i64 (rd ((l0.take ((wrap64 (16 * (wrap64 (a1 + 1)))) : Int).toNat).drop ((ji8) : Int).toNat) 2), .slice Ao26 t109.length co26] 24 (0, 0)) (by (with_reducible repeat (first | refine blk_drewN ?_ _ | refine blk_drew ?_ | refine blk_alloc ?_ _)); refine blk_put (cs := #[.int .i64 (Go.bits .and .i64 (rd ((l0.take ((wrap64 (16 * (wrap64 (a1 + 1)))) : Int).toNat).drop ((ji8) : Int).toNat) 0) 15), .int .i64 ((Go.bits .andNot .i64 (rd ((l0.take ((wrap64 (16 * (wrap64 (a1 + 1)))) : Int).toNat).drop ((ji8) : Int).toNat) 0) 1152921504606846976) / 16), .int .i64 (rd ((l0.take ((wrap64 (16 * (wrap64 (a1 + 1)))) : Int).toNat).drop ((ji8) : Int).toNat) 1), .int .i64 (rd ((l0.take ((wrap64 (16 * (wrap64 (a1 + 1)))) : Int).toNat).drop ((ji8) : Int).toNat) 2), .slice none 0 0]) ?_ 4 _ rfl; (with_reducible repeat (first | refine blk_drewN ?_ _ | refine blk_drew ?_ | refine blk_alloc ?_ _)); refine blk_put (cs := #[.int .i64 (Go.bits .and .i64 (rd ((l0.take ((wrap64 (16 * (wrap64 (a1 + 1)))) : Int).toNat).drop ((ji8) : Int).toNat) 0) 15), .int .i64 ((Go.bits .andNot .i64 (rd ((l0.take ((wrap64 (16 * (wrap64 (a1 + 1)))) : Int).toNat).drop ((ji8) : Int).toNat) 0) 1152921504606846976) / 16), .int .i64 (rd ((l0.take ((wrap64 (16 * (wrap64 (a1 + 1)))) : Int).toNat).drop ((ji8) : Int).toNat) 1), .int .i64 0, .slice none 0 0]) ?_ 3 _ rfl; (with_reducible repeat (first | refine blk_drewN ?_ _ | refine blk_drew ?_ | refine blk_alloc ?_ _)); refine blk_put (cs := #[.int .i64 (Go.bits .and .i64 (rd ((l0.take ((wrap64 (16 * (wrap64 (a1 + 1)))) : Int).toNat).drop ((ji8) : Int).toNat) 0) 15), .int .i64 ((Go.bits .andNot .i64 (rd ((l0.take ((wrap64 (16 * (wrap64 (a1 + 1)))) : Int).toNat).drop ((ji8) : Int).toNat) 0) 1152921504606846976) / 16), .int .i64 0, .int .i64 0, .slice none 0 0]) ?_ 2 _ rfl; (with_reducible repeat (first | refine blk_drewN ?_ _ | refine blk_drew ?_ | refine blk_alloc ?_ _)); refine blk_put (cs := #[.int .i64 (Go.bits .and .i64 (rd ((l0.take ((wrap64 (16 * (wrap64 (a1 + 1)))) : Int).toNat).drop ((ji8) : Int).toNat) 0) 15), .int .i64 0, .int .i64 0, .int .i64 0, .slice none 0 0]) ?_ 1 _ rfl; (with_reducible repeat (first | refine blk_drewN ?_ _ | refine blk_drew ?_ | refine blk_alloc ?_ _)); refine blk_put (cs := #[.int .i64 0, .int .i64 0, .int .i64 0, .int .i64 0, .slice none 0 0]) ?_ 0 _ rfl; (with_reducible repeat (first | refine blk_drewN ?_ _ | refine blk_drew ?_ | refine blk_alloc ?_ _)); exact BK112.out) hb); have n4_ := Aside0.mk (below_step (qg2_ GE103.out GE112.out) hb); clear HO111; clear BK103; clear BK112; clear HB; have HO111 := n0_; have HO115 := n1_; have BK103 := n2_; have BK112 := n3_; have HB := n4_; clear n0_ n1_ n2_ n3_ n4_; (try clear hb); (try clear hb2); (try clear hk); (try clear hi); (try clear ho0); obtain ⟨Ao35, co35, eo35⟩ := Kd.R_slice HO115.out; subst eo35) | (go_at_call 47; (conv => (arg 3; rw [HLEN.out])); (with_reducible refine (slices_Equal_int_int.calls kj2 _ _ t113 _ _ ((l0.take ((wrap64 (16 * (wrap64 (a1 + 1)))) : Int).toNat).drop ((ji8) : Int).toNat) true _ ?side1 ?side2 ?side3 ?side4 A18.out).mono ?_); (case side1 => repeat (first | exact (Kd.R_reads' HO115.out).2.2 | (with_reducible refine Kd.C_alloc ?_ _) | (with_reducible refine Kd.C_drewN ?_ _) | (with_reducible refine Kd.C_drew ?_))); (case side2 => exact (Kd.R_reads' HO115.out).2.1); (case side3 => repeat (first | exact (Kd.C_below HR104.out HB.out) | (with_reducible refine Kd.C_alloc ?_ _) | (with_reducible refine Kd.C_drewN ?_ _) | (with_reducible refine Kd.C_drew ?_))); (case side4 => exact HC104.out); rintro e w' ⟨rfl, ⟨nd, rfl⟩⟩; (try (rw [drewN_self w34]; generalize hq_ : World.drewN w34 _ = w34; have n0_ : Aside0 (Kd.R (Kd.int .i64) 3 w34 w.heap.size (fun k_ => some k_ ≠ (.slice Ao35 t113.length co35 : Value).ownBlock) (.slice Ao26 t109.length co26) t109) := ⟨by rw [← hq_]; exact (by (with_reducible repeat (first | apply Kd.R_alloc | apply Kd.R_drewN | apply Kd.R_drew)); exact Kd.R_mono HO111.out (fun _ hk => hk.2))⟩; have n1_ : Aside0 (Kd.R (Kd.int .i64) 3 w34 w.heap.size (fun k_ => some k_ ≠ (.slice Ao26 t109.length co26 : Value).ownBlock) (.slice Ao35 t113.length co35) t113) := ⟨by rw [← hq_]; exact (by (with_reducible repeat (first | apply Kd.R_alloc | apply Kd.R_drewN | apply Kd.R_drew)); exact Kd.R_mono HO115.out (fun _ hk => hk.2))⟩; have n2_ : Aside0 (w34.heap[gb103]? = some (.cells #[.int .i64 0, .int .i64 0, .int .i64 0, .int .i64 0, .slice none 0 0] 24 (0, 0))) := ⟨by rw [← hq_]; exact (qb_ BK103.out)⟩; have n3_ : Aside0 (w34.heap[gb112]? = some (.cells #[.int .i64 (Go.bits .and .i64 (rd ((l0.take ((wrap64 (16 * (wrap64 (a1 + 1)))) : Int).toNat).drop ((ji8) : Int).toNat) 0) 15), .int .i64 ((Go.bits .andNot .i64 (rd ((l0.take ((wrap64 (16 * (wrap64 (a1 + 1)))) : Int).toNat).drop ((ji8) : Int).toNat) 0) 1152921504606846976) / 16), .int .i64 (rd ((l0.take ((wrap64 (16 * (wrap64 (a1 + 1)))) : Int).toNat).drop ((ji8) : Int).toNat) 1), .int .i64 (rd ((l0.take ((wrap64 (16 * (wrap64 (a1 + 1)))) : Int).toNat).drop ((ji8) : Int).toNat) 2), .slice Ao26 t109.length co26] 24 (0, 0))) := ⟨by rw [← hq_]; exact (qb_ BK112.out)⟩; have n4_ : Aside0 (Below w.heap.size w w34) := ⟨by rw [← hq_]; exact (qg2_ GE103.out GE112.out)⟩; clear HO111 HO115 BK103 BK112 HB hq_; have HO111 := n0_; have HO115 := n1_; have BK103 := n2_; have BK112 := n3_; have HB := n4_; clear n0_ n1_ n2_ n3_ n4_)); have hcz36_0 : w34.cell? ⟨gb112, 0, none⟩ = some (.int .i64 (Go.bits .and .i64 (rd ((l0.take ((wrap64 (16 * (wrap64 (a1 + 1)))) : Int).toNat).drop ((ji8) : Int).toNat) 0) 15)) := (blk_cell BK112.out 0).trans rfl; have hcz36_1 : w34.cell? ⟨gb112, 1, none⟩ = some (.int .i64 ((Go.bits .andNot .i64 (rd ((l0.take ((wrap64 (16 * (wrap64 (a1 + 1)))) : Int).toNat).drop ((ji8) : Int).toNat) 0) 1152921504606846976) / 16)) := (blk_cell BK112.out 1).trans rfl; have hcz36_2 : w34.cell? ⟨gb112, 2, none⟩ = some (.int .i64 (rd ((l0.take ((wrap64 (16 * (wrap64 (a1 + 1)))) : Int).toNat).drop ((ji8) : Int).toNat) 1)) := (blk_cell BK112.out 2).trans rfl; have hcz36_3 : w34.cell? ⟨gb112, 3, none⟩ = some (.int .i64 (rd ((l0.take ((wrap64 (16 * (wrap64 (a1 + 1)))) : Int).toNat).drop ((ji8) : Int).toNat) 2)) := (blk_cell BK112.out 3).trans rfl; have hcz36_4 : w34.cell? ⟨gb112, 4, none⟩ = some (.slice Ao26 t109.length co26) := (blk_cell BK112.out 4).trans rfl; have hfz36_0 := blk_frozen BK112.out 0; have hfz36_1 := blk_frozen BK112.out 1; have hfz36_2 := blk_frozen BK112.out 2; have hfz36_3 := blk_frozen BK112.out 3; have hfz36_4 := blk_frozen BK112.out 4; have hcz37_0 : w34.cell? ⟨gb103, 0, none⟩ = some (.int .i64 0) := (blk_cell BK103.out 0).trans rfl; have hcz37_1 : w34.cell? ⟨gb103, 1, none⟩ = some (.int .i64 0) := (blk_cell BK103.out 1).trans rfl; have hcz37_2 : w34.cell? ⟨gb103, 2, none⟩ = some (.int .i64 0) := (blk_cell BK103.out 2).trans rfl; have hcz37_3 : w34.cell? ⟨gb103, 3, none⟩ = some (.int .i64 0) := (blk_cell BK103.out 3).trans rfl; have hcz37_4 : w34.cell? ⟨gb103, 4, none⟩ = some (.slice none 0 0) := (blk_cell BK103.out 4).trans rfl; have hfz37_0 := blk_frozen BK103.out 0; have hfz37_1 := blk_frozen BK103.out 1; have hfz37_2 := blk_frozen BK103.out 2; have hfz37_3 := blk_frozen BK103.out 3; have hfz37_4 := blk_frozen BK103.out 4))
     refine bodyPost_ret (results_ct rfl _ _ gb103 24 #[.int .i64 (Go.bits .and .i64 (rd ((l0.take ((wrap64 (16 * (wrap64 (a1 + 1)))) : Int).toNat).drop ((ji8) : Int).toNat) 0) 15), .int .i64 ((Go.bits .andNot .i64 (rd ((l0.take ((wrap64 (16 * (wrap64 (a1 + 1)))) : Int).toNat).drop ((ji8) : Int).toNat) 0) 1152921504606846976) / 16), .int .i64 (rd ((l0.take ((wrap64 (16 * (wrap64 (a1 + 1)))) : Int).toNat).drop ((ji8) : Int).toNat) 1), .int .i64 (rd ((l0.take ((wrap64 (16 * (wrap64 (a1 + 1)))) : Int).toNat).drop ((ji8) : Int).toNat) 2), .slice Ao26 t109.length co26] (0, 0) _ rfl (by (with_reducible repeat (first | refine blk_drewN ?_ _ | refine blk_drew ?_ | refine blk_alloc ?_ _)); refine blk_put (cs := #[.int .i64 (Go.bits .and .i64 (rd ((l0.take ((wrap64 (16 * (wrap64 (a1 + 1)))) : Int).toNat).drop ((ji8) : Int).toNat) 0) 15), .int .i64 ((Go.bits .andNot .i64 (rd ((l0.take ((wrap64 (16 * (wrap64 (a1 + 1)))) : Int).toNat).drop ((ji8) : Int).toNat) 0) 1152921504606846976) / 16), .int .i64 (rd ((l0.take ((wrap64 (16 * (wrap64 (a1 + 1)))) : Int).toNat).drop ((ji8) : Int).toNat) 1), .int .i64 (rd ((l0.take ((wrap64 (16 * (wrap64 (a1 + 1)))) : Int).toNat).drop ((ji8) : Int).toNat) 2), .slice none 0 0]) ?_ 4 _ rfl; (with_reducible repeat (first | refine blk_drewN ?_ _ | refine blk_drew ?_ | refine blk_alloc ?_ _)); refine blk_put (cs := #[.int .i64 (Go.bits .and .i64 (rd ((l0.take ((wrap64 (16 * (wrap64 (a1 + 1)))) : Int).toNat).drop ((ji8) : Int).toNat) 0) 15), .int .i64 ((Go.bits .andNot .i64 (rd ((l0.take ((wrap64 (16 * (wrap64 (a1 + 1)))) : Int).toNat).drop ((ji8) : Int).toNat) 0) 1152921504606846976) / 16), .int .i64 (rd ((l0.take ((wrap64 (16 * (wrap64 (a1 + 1)))) : Int).toNat).drop ((ji8) : Int).toNat) 1), .int .i64 0, .slice none 0 0]) ?_ 3 _ rfl; (with_reducible repeat (first | refine blk_drewN ?_ _ | refine blk_drew ?_ | refine blk_alloc ?_ _)); refine blk_put (cs := #[.int .i64 (Go.bits .and .i64 (rd ((l0.take ((wrap64 (16 * (wrap64 (a1 + 1)))) : Int).toNat).drop ((ji8) : Int).toNat) 0) 15), .int .i64 ((Go.bits .andNot .i64 (rd ((l0.take ((wrap64 (16 * (wrap64 (a1 + 1)))) : Int).toNat).drop ((ji8) : Int).toNat) 0) 1152921504606846976) / 16), .int .i64 0, .int .i64 0, .slice none 0 0]) ?_ 2 _ rfl; (with_reducible repeat (first | refine blk_drewN ?_ _ | refine blk_drew ?_ | refine blk_alloc ?_ _)); refine blk_put (cs := #[.int .i64 (Go.bits .and .i64 (rd ((l0.take ((wrap64 (16 * (wrap64 (a1 + 1)))) : Int).toNat).drop ((ji8) : Int).toNat) 0) 15), .int .i64 0, .int .i64 0, .int .i64 0, .slice none 0 0]) ?_ 1 _ rfl; (with_reducible repeat (first | refine blk_drewN ?_ _ | refine blk_drew ?_ | refine blk_alloc ?_ _)); refine blk_put (cs := #[.int .i64 0, .int .i64 0, .int .i64 0, .int .i64 0, .slice none 0 0]) ?_ 0 _ rfl; (with_reducible repeat (first | refine blk_drewN ?_ _ | refine blk_drew ?_ | refine blk_alloc ?_ _)); exact BK103.out) Try.underlying24 rfl (by kernel_rfl)) rfl ?_
     exact ⟨_, by first | rfl | (simp [errW_none, errW_some] <;> rfl) | (simp only [← hji8]; first | rfl | (simp [errW_none, errW_some] <;> rfl)) | (simp [*, errW_none, errW_some] <;> rfl), by (with_reducible repeat (first | apply Kd.R_alloc | apply Kd.R_drewN | apply Kd.R_drew)); exact Kd.R_mono (Kd.R_far (p := ⟨gb103, 4, none⟩) (Kd.R_far (p := ⟨gb103, 3, none⟩) (Kd.R_far (p := ⟨gb103, 2, none⟩) (Kd.R_far (p := ⟨gb103, 1, none⟩) (Kd.R_far (p := ⟨gb103, 0, none⟩) (Kd.R_types HO111.out BK103.out (by decide)) (fun _ hk => hk.2) (.int .i64 (Go.bits .and .i64 (rd ((l0.take ((wrap64 (16 * (wrap64 (a1 + 1)))) : Int).toNat).drop ((ji8) : Int).toNat) 0) 15))) (fun _ hk => hk.2) (.int .i64 ((Go.bits .andNot .i64 (rd ((l0.take ((wrap64 (16 * (wrap64 (a1 + 1)))) : Int).toNat).drop ((ji8) : Int).toNat) 0) 1152921504606846976) / 16))) (fun _ hk => hk.2) (.int .i64 (rd ((l0.take ((wrap64 (16 * (wrap64 (a1 + 1)))) : Int).toNat).drop ((ji8) : Int).toNat) 1))) (fun _ hk => hk.2) (.int .i64 (rd ((l0.take ((wrap64 (16 * (wrap64 (a1 + 1)))) : Int).toNat).drop ((ji8) : Int).toNat) 2))) (fun _ hk => hk.2) (.slice Ao26 t109.length co26)) (fun _ hk => trivial), by repeat (first | (with_reducible first | exact HB.out | apply below_alloc | apply pw_below_drewN | apply below_drew1 | refine below_set ?_ GE103.out | refine below_set ?_ GE112.out) | exact HB.out)⟩
   replace c19 := Bool.eq_false_iff.mpr c19
   subst c19
   have H1 : (some (0, 0, 0, 0, ([] : List Int), 90)) = some (r1, r2, r3, r4, r5, r6) := by rw [if_neg (show ¬ (false = true) by decide)] at H; exact H
   clear H
   have H := H1
   clear H1
   simp only [Option.some.injEq, Prod.mk.injEq] at H
   obtain ⟨rfl, rfl, rfl, rfl, rfl, rfl⟩ := H
   obtain ⟨i038, hi038, _, hsz38, _⟩ := info_parts info3
   obtain ⟨A38, hcut38, hA38, hC38⟩ := print_mid_of (P := Try.prog) (Value.int .i64) 0 22 3 .i64 .i64 Try.underlying22 hi038 hsz38 A0 c0 l0 (ji8) (wrap64 (16 * (wrap64 (a1 + 1)))) (of_decide_eq_true (by first | (with_reducible assumption) | assumption)) (by first | omega | exact of_decide_eq_true (by first | (with_reducible assumption) | assumption)) (of_decide_eq_true (by first | (with_reducible assumption) | assumption)) HC0.out
   have HR104 := Aside0.mk (Kd.C_of_reads (h1 := fun _ => rfl) (hA38 _ (Kd.reads_of_C HR0.out)))
   have HC104 := Aside0.mk hC38
   clear hA38 hC38 hi038 hsz38
   try go_wp2
   have n0_ := Aside0.mk (blk_drew BK103.out)
   have n1_ := Aside0.mk (below_drew1 HB.out)
   clear BK103
   clear HB
   have BK103 := n0_
   have HB := n1_
   clear n0_ n1_
   have p105 : 0 ≤ (0 : Int) := (by omega)
   have q105 : 0 < (((l0.take ((wrap64 (16 * (wrap64 (a1 + 1)))) : Int).toNat).drop ((ji8) : Int).toNat).length : Int) := of_decide_eq_true (by first | (with_reducible assumption) | assumption)
   obtain ⟨ad105, e105, hx105_0⟩ := Kd.at_int HR104.out 0 p105 q105
   have hw105_0 := hx105_0
   (try rw [show ((0 : Int)).toNat = 0 from rfl] at hw105_0)
   (try rw [show 0 * 1 = 0 from rfl] at hw105_0)
   (try rw [Addr.add_zero'] at hw105_0)
   cases e105
   have qi105 : (0 < ((l0.take ((wrap64 (16 * (wrap64 (a1 + 1)))) : Int).toNat).drop ((ji8) : Int).toNat).length) = True := eq_true (by omega)
   (try rw [show ((0 : Int)).toNat = 0 from rfl] at hx105_0)
   (try rw [Addr.add_zero'] at hx105_0)
   replace hx105_0 := kc_ HB.out hx105_0
   replace p105 := eq_true p105
   replace q105 := eq_true q105
   have p106 : 0 ≤ (0 : Int) := (by omega)
   have q106 : 0 < (((l0.take ((wrap64 (16 * (wrap64 (a1 + 1)))) : Int).toNat).drop ((ji8) : Int).toNat).length : Int) := of_decide_eq_true (by first | (with_reducible assumption) | assumption)
   obtain ⟨ad106, e106, hx106_0⟩ := Kd.at_int HR104.out 0 p106 q106
   have hw106_0 := hx106_0
   (try rw [show ((0 : Int)).toNat = 0 from rfl] at hw106_0)
   (try rw [show 0 * 1 = 0 from rfl] at hw106_0)
   (try rw [Addr.add_zero'] at hw106_0)
   obtain rfl : ad105 = ad106 := (by injection e106)
   have qi106 : (0 < ((l0.take ((wrap64 (16 * (wrap64 (a1 + 1)))) : Int).toNat).drop ((ji8) : Int).toNat).length) = True := eq_true (by omega)
   (try rw [show ((0 : Int)).toNat = 0 from rfl] at hx106_0)
   (try rw [Addr.add_zero'] at hx106_0)
   replace hx106_0 := kc_ HB.out hx106_0
   replace p106 := eq_true p106
   replace q106 := eq_true q106
   have p107 : 0 ≤ (1 : Int) := (by omega)
   have q107 : 1 < (((l0.take ((wrap64 (16 * (wrap64 (a1 + 1)))) : Int).toNat).drop ((ji8) : Int).toNat).length : Int) := of_decide_eq_true (by first | (with_reducible assumption) | assumption)
   obtain ⟨ad107, e107, hx107_0⟩ := Kd.at_int HR104.out 1 p107 q107
   have hw107_0 := hx107_0
   (try rw [show ((1 : Int)).toNat = 1 from rfl] at hw107_0)
   (try rw [show 1 * 1 = 1 from rfl] at hw107_0)
   (try simp only [Nat.reduceMul, Nat.reduceEqDiff, Go.Addr.add, ↓reduceIte] at hw107_0)
   obtain rfl : ad105 = ad107 := (by injection e107)
   (try simp only [show (1 : Int).toNat = 1 from rfl, Nat.reduceMul, Nat.reduceEqDiff, Go.Addr.add, ↓reduceIte] at hx107_0)
   have qi107 : (1 < ((l0.take ((wrap64 (16 * (wrap64 (a1 + 1)))) : Int).toNat).drop ((ji8) : Int).toNat).length) = True := eq_true (by omega)
   (try rw [show ((1 : Int)).toNat = 1 from rfl] at hx107_0)
   replace hx107_0 := kc_ HB.out hx107_0
   replace p107 := eq_true p107
   replace q107 := eq_true q107
   have p108 : 0 ≤ (2 : Int) := (by omega)
   have q108 : 2 < (((l0.take ((wrap64 (16 * (wrap64 (a1 + 1)))) : Int).toNat).drop ((ji8) : Int).toNat).length : Int) := of_decide_eq_true (by first | (with_reducible assumption) | assumption)
   obtain ⟨ad108, e108, hx108_0⟩ := Kd.at_int HR104.out 2 p108 q108
   have hw108_0 := hx108_0
   (try rw [show ((2 : Int)).toNat = 2 from rfl] at hw108_0)
   (try rw [show 2 * 1 = 2 from rfl] at hw108_0)
   (try simp only [Nat.reduceMul, Nat.reduceEqDiff, Go.Addr.add, ↓reduceIte] at hw108_0)
   obtain rfl : ad105 = ad108 := (by injection e108)
   (try simp only [show (2 : Int).toNat = 2 from rfl, Nat.reduceMul, Nat.reduceEqDiff, Go.Addr.add, ↓reduceIte] at hx108_0)
   have qi108 : (2 < ((l0.take ((wrap64 (16 * (wrap64 (a1 + 1)))) : Int).toNat).drop ((ji8) : Int).toNat).length) = True := eq_true (by omega)
   (try rw [show ((2 : Int)).toNat = 2 from rfl] at hx108_0)
   replace hx108_0 := kc_ HB.out hx108_0
   replace p108 := eq_true p108
   replace q108 := eq_true q108
   have qz0 : (0 < (wrap64 (16 * wrap64 (a1 + 1))).toNat - ji8.toNat) = True := eq_true (by have hh := of_eq_true qi108; simp only [List.length_drop, List.length_take] at hh; omega)
   have qy0 : ((0 : Int) < (((wrap64 (16 * wrap64 (a1 + 1))).toNat - ji8.toNat : Nat) : Int)) = True := eq_true (by have hh := of_eq_true qi108; simp only [List.length_drop, List.length_take] at hh; omega)
   have qz1 : (1 < (wrap64 (16 * wrap64 (a1 + 1))).toNat - ji8.toNat) = True := eq_true (by have hh := of_eq_true qi108; simp only [List.length_drop, List.length_take] at hh; omega)
   have qy1 : ((1 : Int) < (((wrap64 (16 * wrap64 (a1 + 1))).toNat - ji8.toNat : Nat) : Int)) = True := eq_true (by have hh := of_eq_true qi108; simp only [List.length_drop, List.length_take] at hh; omega)
   have qz2 : (2 < (wrap64 (16 * wrap64 (a1 + 1))).toNat - ji8.toNat) = True := eq_true (by have hh := of_eq_true qi108; simp only [List.length_drop, List.length_take] at hh; omega)
   have qy2 : ((2 : Int) < (((wrap64 (16 * wrap64 (a1 + 1))).toNat - ji8.toNat : Nat) : Int)) = True := eq_true (by have hh := of_eq_true qi108; simp only [List.length_drop, List.length_take] at hh; omega)
   have HLEN := Aside0.mk (show (wrap64 (16 * wrap64 (a1 + 1))).toNat - ji8.toNat = ((l0.take ((wrap64 (16 * (wrap64 (a1 + 1)))) : Int).toNat).drop ((ji8) : Int).toNat).length by simp only [List.length_drop, List.length_take]; omega)
   refine start_ (n := 20) (S := fun w' => w'.cell? ad105 = some (.int .i64 (rd ((l0.take ((wrap64 (16 * (wrap64 (a1 + 1)))) : Int).toNat).drop ((ji8) : Int).toNat) 0)) ∧ w'.cell? ad105 = some (.int .i64 (rd ((l0.take ((wrap64 (16 * (wrap64 (a1 + 1)))) : Int).toNat).drop ((ji8) : Int).toNat) 0)) ∧ w'.cell? ⟨ad105.block, ad105.off + 1, none⟩ = some (.int .i64 (rd ((l0.take ((wrap64 (16 * (wrap64 (a1 + 1)))) : Int).toNat).drop ((ji8) : Int).toNat) 1)) ∧ w'.cell? ⟨ad105.block, ad105.off + 2, none⟩ = some (.int .i64 (rd ((l0.take ((wrap64 (16 * (wrap64 (a1 + 1)))) : Int).toNat).drop ((ji8) : Int).toNat) 2))) (ds := []) #[false, false, false, false, false, false, false, false, false, false, false, false, false, false, false, false, false, false, false, false] (by kernel_rfl) rfl rfl ⟨(kc_ HB.out hw105_0), (kc_ HB.out hw106_0), (kc_ HB.out hw107_0), (kc_ HB.out hw108_0)⟩ (fun hHeld => ?_); refine with_tabW node_Read.tab4 node_Read.bits4 (fun HT_ HW_ => ?_)
   generalize wc.drew = w39 at BK103 HB hx105_0 hx106_0 hx107_0 hx108_0 hHeld ⊢
   refine pure_ (i := 0) (N := some 27) (v := ?_) (a' := ?_) #[true, false, false, false, false, false, false, false, false, false, false, false, false, false, false, false, false, false, false, false] rfl rfl (any_of HT_.out (by kernel_rfl)) (fun _ _ _ h => h) (Or.inl ⟨by rfl, ?_⟩) ?_ ?_
   rotate_left
   · intro w'
     go_simp
     with_reducible rfl
   rotate_left
   · simp only [Act.put, List.setIfInBounds_toArray, List.set_cons_zero, List.set_cons_succ, i64_w, i32_w]
     rfl
   refine pure_ (i := 1) (N := some 28) (v := ?_) (a' := ?_) #[true, true, false, false, false, false, false, false, false, false, false, false, false, false, false, false, false, false, false, false] rfl rfl (any_of HT_.out (by kernel_rfl)) (fun _ _ _ h => h) (Or.inl ⟨by rfl, ?_⟩) ?_ ?_
   rotate_left
   · intro w'
     go_simp
     with_reducible rfl
   rotate_left
   · simp only [Act.put, List.setIfInBounds_toArray, List.set_cons_zero, List.set_cons_succ, i64_w, i32_w]
     rfl
   refine pure_ (i := 4) (N := some 31) (v := ?_) (a' := ?_) #[true, true, false, false, true, false, false, false, false, false, false, false, false, false, false, false, false, false, false, false] rfl rfl (any_of HT_.out (by kernel_rfl)) (fun _ _ _ h => h) (Or.inl ⟨by rfl, ?_⟩) ?_ ?_
   rotate_left
   · intro w'
     go_simp
     with_reducible rfl
   rotate_left
   · simp only [Act.put, List.setIfInBounds_toArray, List.set_cons_zero, List.set_cons_succ, i64_w, i32_w]
     rfl
   refine pure_ (i := 5) (N := some 32) (v := ?_) (a' := ?_) #[true, true, false, false, true, true, false, false, false, false, false, false, false, false, false, false, false, false, false, false] rfl rfl (any_of HT_.out (by kernel_rfl)) (fun _ _ _ h => h) (Or.inl ⟨by rfl, ?_⟩) ?_ ?_
   rotate_left
   · intro w'
     go_simp
     with_reducible rfl
   rotate_left
   · simp only [Act.put, List.setIfInBounds_toArray, List.set_cons_zero, List.set_cons_succ, i64_w, i32_w]
     rfl
   refine pure_ (i := 9) (N := some 36) (v := ?_) (a' := ?_) #[true, true, false, false, true, true, false, false, false, true, false, false, false, false, false, false, false, false, false, false] rfl rfl (any_of HT_.out (by kernel_rfl)) (fun _ _ _ h => h) (Or.inl ⟨by rfl, ?_⟩) ?_ ?_
   rotate_left
   · intro w'
     go_simp
     with_reducible rfl
   rotate_left
   · simp only [Act.put, List.setIfInBounds_toArray, List.set_cons_zero, List.set_cons_succ, i64_w, i32_w]
     rfl
   refine pure_ (i := 10) (N := some 37) (v := ?_) (a' := ?_) #[true, true, false, false, true, true, false, false, false, true, true, false, false, false, false, false, false, false, false, false] rfl rfl (any_of HT_.out (by kernel_rfl)) (fun _ _ _ h => h) (Or.inl ⟨by rfl, ?_⟩) ?_ ?_
   rotate_left
   · intro w'
     go_simp
     with_reducible rfl
   rotate_left
   · simp only [Act.put, List.setIfInBounds_toArray, List.set_cons_zero, List.set_cons_succ, i64_w, i32_w]
     rfl
   refine pure_ (i := 12) (N := some 39) (v := ?_) (a' := ?_) #[true, true, false, false, true, true, false, false, false, true, true, false, true, false, false, false, false, false, false, false] rfl rfl (any_of HT_.out (by kernel_rfl)) (fun _ _ _ h => h) (Or.inl ⟨by rfl, ?_⟩) ?_ ?_
   rotate_left
   · intro w'
     go_simp
     with_reducible rfl
   rotate_left
   · simp only [Act.put, List.setIfInBounds_toArray, List.set_cons_zero, List.set_cons_succ, i64_w, i32_w]
     rfl
   refine pure_ (i := 13) (N := some 40) (v := ?_) (a' := ?_) #[true, true, false, false, true, true, false, false, false, true, true, false, true, true, false, false, false, false, false, false] rfl rfl (any_of HT_.out (by kernel_rfl)) (fun _ _ _ h => h) (Or.inl ⟨by rfl, ?_⟩) ?_ ?_
   rotate_left
   · intro w'
     go_simp
     with_reducible rfl
   rotate_left
   · simp only [Act.put, List.setIfInBounds_toArray, List.set_cons_zero, List.set_cons_succ, i64_w, i32_w]
     rfl
   refine pure_ (i := 15) (N := some 42) (v := ?_) (a' := ?_) #[true, true, false, false, true, true, false, false, false, true, true, false, true, true, false, true, false, false, false, false] rfl rfl (any_of HT_.out (by kernel_rfl)) (fun _ _ _ h => h) (Or.inl ⟨by rfl, ?_⟩) ?_ ?_
   rotate_left
   · intro w'
     go_simp
     with_reducible rfl
   rotate_left
   · simp only [Act.put, List.setIfInBounds_toArray, List.set_cons_zero, List.set_cons_succ, i64_w, i32_w]
     rfl
   refine take_ (i := 2) (N := some 29) (v := ?_) (a' := ?_) #[true, true, true, false, true, true, false, false, false, true, true, false, true, true, false, true, false, false, false, false] rfl rfl (take_ofW HT_.out HW_.out (by kernel_rfl)) (fun _ _ _ h => h) (Or.inl ⟨by rfl, ?_⟩) hHeld ?_ ?_
   rotate_left
   · rintro w' ⟨s0, s1, s2, s3⟩
     go_simp
     with_reducible rfl
   rotate_left
   · simp only [Act.put, List.setIfInBounds_toArray, List.set_cons_zero, List.set_cons_succ, i64_w, i32_w]
     rfl
   refine pure_ (i := 3) (N := some 30) (v := ?_) (a' := ?_) #[true, true, true, true, true, true, false, false, false, true, true, false, true, true, false, true, false, false, false, false] rfl rfl (any_of HT_.out (by kernel_rfl)) (fun _ _ _ h => h) (Or.inl ⟨by rfl, ?_⟩) ?_ ?_
   rotate_left
   · intro w'
     go_simp
     with_reducible rfl
   rotate_left
   · simp only [Act.put, List.setIfInBounds_toArray, List.set_cons_zero, List.set_cons_succ, i64_w, i32_w]
     rfl
   refine take_ (i := 6) (N := some 33) (v := ?_) (a' := ?_) #[true, true, true, true, true, true, true, false, false, true, true, false, true, true, false, true, false, false, false, false] rfl rfl (take_ofW HT_.out HW_.out (by kernel_rfl)) (fun _ _ _ h => h) (Or.inl ⟨by rfl, ?_⟩) hHeld ?_ ?_
   rotate_left
   · rintro w' ⟨s0, s1, s2, s3⟩
     go_simp
     with_reducible rfl
   rotate_left
   · simp only [Act.put, List.setIfInBounds_toArray, List.set_cons_zero, List.set_cons_succ, i64_w, i32_w]
     rfl
   refine pure_ (i := 7) (N := some 34) (v := ?_) (a' := ?_) #[true, true, true, true, true, true, true, true, false, true, true, false, true, true, false, true, false, false, false, false] rfl rfl (any_of HT_.out (by kernel_rfl)) (fun _ _ _ h => h) (Or.inl ⟨by rfl, ?_⟩) ?_ ?_
   rotate_left
   · intro w'
     go_simp
     with_reducible rfl
   rotate_left
   · simp only [Act.put, List.setIfInBounds_toArray, List.set_cons_zero, List.set_cons_succ, i64_w, i32_w]
     rfl
   refine pure_ (i := 8) (N := some 35) (v := ?_) (a' := ?_) #[true, true, true, true, true, true, true, true, true, true, true, false, true, true, false, true, false, false, false, false] rfl rfl (any_of HT_.out (by kernel_rfl)) (fun _ _ _ h => h) (Or.inl ⟨by rfl, ?_⟩) ?_ ?_
   rotate_left
   · intro w'
     go_simp
     with_reducible rfl
   rotate_left
   · simp only [Act.put, List.setIfInBounds_toArray, List.set_cons_zero, List.set_cons_succ, i64_w, i32_w]
     rfl
   refine take_ (i := 11) (N := some 38) (v := ?_) (a' := ?_) #[true, true, true, true, true, true, true, true, true, true, true, true, true, true, false, true, false, false, false, false] rfl rfl (take_ofW HT_.out HW_.out (by kernel_rfl)) (fun _ _ _ h => h) (Or.inl ⟨by rfl, ?_⟩) hHeld ?_ ?_
   rotate_left
   · rintro w' ⟨s0, s1, s2, s3⟩
     go_simp
     with_reducible rfl
   rotate_left
   · simp only [Act.put, List.setIfInBounds_toArray, List.set_cons_zero, List.set_cons_succ, i64_w, i32_w]
     rfl
   refine take_ (i := 14) (N := some 41) (v := ?_) (a' := ?_) #[true, true, true, true, true, true, true, true, true, true, true, true, true, true, true, true, false, false, false, false] rfl rfl (take_ofW HT_.out HW_.out (by kernel_rfl)) (fun _ _ _ h => h) (Or.inl ⟨by rfl, ?_⟩) hHeld ?_ ?_
   rotate_left
   · rintro w' ⟨s0, s1, s2, s3⟩
     go_simp
     with_reducible rfl
   rotate_left
   · simp only [Act.put, List.setIfInBounds_toArray, List.set_cons_zero, List.set_cons_succ, i64_w, i32_w]
     rfl
   refine join_ (σ := Value × Nat) 1 #[true, true, true, true, true, true, true, true, true, true, true, true, true, true, true, true, true, true, true, false] (fun s_ => [(43, s_.1), (7, .pointer (some ⟨s_.2, 0, none⟩)), (44, .agg #[.int .i64 (Go.bits .and .i64 (rd ((l0.take ((wrap64 (16 * (wrap64 (a1 + 1)))) : Int).toNat).drop ((ji8) : Int).toNat) 0) 15), .int .i64 ((Go.bits .andNot .i64 (rd ((l0.take ((wrap64 (16 * (wrap64 (a1 + 1)))) : Int).toNat).drop ((ji8) : Int).toNat) 0) 1152921504606846976) / 16), .int .i64 (rd ((l0.take ((wrap64 (16 * (wrap64 (a1 + 1)))) : Int).toNat).drop ((ji8) : Int).toNat) 1), .int .i64 (rd ((l0.take ((wrap64 (16 * (wrap64 (a1 + 1)))) : Int).toNat).drop ((ji8) : Int).toNat) 2), s_.1])]) (fun s_ w' => (w'.cell? ad105 = some (.int .i64 (rd ((l0.take ((wrap64 (16 * (wrap64 (a1 + 1)))) : Int).toNat).drop ((ji8) : Int).toNat) 0)) ∧ w'.cell? ad105 = some (.int .i64 (rd ((l0.take ((wrap64 (16 * (wrap64 (a1 + 1)))) : Int).toNat).drop ((ji8) : Int).toNat) 0)) ∧ w'.cell? ⟨ad105.block, ad105.off + 1, none⟩ = some (.int .i64 (rd ((l0.take ((wrap64 (16 * (wrap64 (a1 + 1)))) : Int).toNat).drop ((ji8) : Int).toNat) 1)) ∧ w'.cell? ⟨ad105.block, ad105.off + 2, none⟩ = some (.int .i64 (rd ((l0.take ((wrap64 (16 * (wrap64 (a1 + 1)))) : Int).toNat).drop ((ji8) : Int).toNat) 2))) ∧ (Kd.R (Kd.int .i64) 3 w' w.heap.size (fun _ => True) s_.1 t109) ∧ (w'.heap[gb103]? = some (.cells #[.int .i64 0, .int .i64 0, .int .i64 0, .int .i64 0, .slice none 0 0] 24 (0, 0))) ∧ (w'.heap[s_.2]? = some (.cells #[.int .i64 0, .int .i64 0, .int .i64 0, .int .i64 0, .slice none 0 0] 24 (0, 0))) ∧ (w.heap.size ≤ s_.2) ∧ (w.heap.size ≤ s_.2) ∧ (gb103 ≠ s_.2) ∧ (s_.2 ≠ gb103) ∧ (Below w.heap.size w w')) ?_ ?_
   rotate_left
   · intro hCont
     refine two_ (i := 16) (j := 18) (Ni := some 43) (Nj := some 7) #[true, true, true, true, true, true, true, true, true, true, true, true, true, true, true, true, true, false, false, false] #[true, true, true, true, true, true, true, true, true, true, true, true, true, true, true, true, false, false, true, false] rfl rfl rfl rfl (two_of HT_.out (by kernel_rfl)) (by decide) (by decide) (fun K hK => ?_) (fun K hK => ?_)
     · skip
       refine goes_ Try.func45 (by kernel_rfl) rfl #[.slice (some ad105) ((l0.take ((wrap64 (16 * (wrap64 (a1 + 1)))) : Int).toNat).drop ((ji8) : Int).toNat).length (c0 - (ji8).toNat), .int .i64 0] (by rfl) rfl rfl (by (try simp only [List.map_toArray, List.map_cons, List.map_nil]); first | done | (rw [show ((l0.take ((wrap64 (16 * (wrap64 (a1 + 1)))) : Int).toNat).drop ((ji8) : Int).toNat).length = ((wrap64 (16 * (wrap64 (a1 + 1)))).toNat - (ji8).toNat) from (by rw [List.length_drop, List.length_take]; have h_ : ((wrap64 (16 * (wrap64 (a1 + 1)))) : Int) ≤ (l0.length : Int) := of_decide_eq_true (by first | (with_reducible assumption) | assumption); omega)] <;> rfl) | (simp only [hji8]; rfl) | rfl | (simp only [List.length_drop, List.length_take]; rfl)) ?_
       with_reducible refine (fast_Slots.calls _ _ ((l0.take ((wrap64 (16 * (wrap64 (a1 + 1)))) : Int).toNat).drop ((ji8) : Int).toNat) 0 t109 _ ?side1 ?side2 A15.out).mono ?_
       (case side1 => repeat (first | exact (Kd.C_below HR104.out HB.out) | (with_reducible refine Kd.C_alloc ?_ _) | (with_reducible refine Kd.C_drewN ?_ _) | (with_reducible refine Kd.C_drew ?_)))
       (case side2 => exact HC104.out)
       rintro e w40 ⟨v110, rfl, ho0, hb⟩
       refine ⟨_, rfl, ?_⟩
       have n0_ := Aside0.mk (Kd.R_lower ho0 (below_size (qg1_ GE103.out)))
       have n1_ := Aside0.mk (blk_below (g := gb103) (o := .cells #[.int .i64 0, .int .i64 0, .int .i64 0, .int .i64 0, .slice none 0 0] 24 (0, 0)) (qb_ BK103.out) hb)
       have n2_ := Aside0.mk (below_step (qg1_ GE103.out) hb)
       clear BK103
       clear HB
       have HO111 := n0_
       have BK103 := n1_
       have HB := n2_
       clear n0_ n1_ n2_
       (try clear hb)
       (try clear hb2)
       (try clear hk)
       (try clear hi)
       (try clear ho0)
       obtain ⟨Ao41, co41, eo41⟩ := Kd.R_slice HO111.out
       (first | subst eo41 | (injection eo41 with f1_ f2_ f3_; have f4_ := f1_.symm; have f5_ := f3_.symm; clear f1_ f2_ f3_; subst f4_; subst f5_))
       refine hK.out _ _ ⟨(kc_ HB.out hw105_0), (kc_ HB.out hw106_0), (kc_ HB.out hw107_0), (kc_ HB.out hw108_0)⟩ (fun hHeld => ?_)
       clear hK K
       refine norm_ (a' := ?_) ?_ ?_
       rotate_left
       · show Act.put _ (some 43) _ = _
         simp only [Act.put, List.setIfInBounds_toArray, List.set_cons_zero, List.set_cons_succ, i64_w, i32_w]
         rfl
       refine pure_ (i := 17) (N := some 44) (v := ?_) (a' := ?_) #[true, true, true, true, true, true, true, true, true, true, true, true, true, true, true, true, true, true, false, false] rfl rfl (any_of HT_.out (by kernel_rfl)) (fun _ _ _ h => h) (Or.inl ⟨by rfl, ?_⟩) ?_ ?_
       rotate_left
       · intro w'
         go_simp
         with_reducible rfl
       rotate_left
       · simp only [Act.put, List.setIfInBounds_toArray, List.set_cons_zero, List.set_cons_succ, i64_w, i32_w]
         rfl
       refine one_ (i := 18) (N := some 7) #[true, true, true, true, true, true, true, true, true, true, true, true, true, true, true, true, true, true, true, false] rfl rfl (one_of HT_.out (by kernel_rfl)) (by decide) (fun K hK => ?_)
       refine box_step ?hg (N := 7) ?hd (cs := #[.int .i64 0, .int .i64 0, .int .i64 0, .int .i64 0, .slice none 0 0]) (t := 24) ?hr ?_; (case hd => rfl); (case hg => rfl); (case hr => first | (go_simp; done) | (go_simp; rfl))
       intro gb112 hg w42 hbox hb
       have n0_ := Aside0.mk (Kd.R_below (qr_ HO111.out) hb)
       have n1_ := Aside0.mk (blk_below (g := gb103) (o := .cells #[.int .i64 0, .int .i64 0, .int .i64 0, .int .i64 0, .slice none 0 0] 24 (0, 0)) (qb_ BK103.out) hb)
       have n2_ := Aside0.mk (below_step (qg1_ GE103.out) hb)
       have n3_ := Aside0.mk (hbox)
       have n4_ := Aside0.mk ((by rw [hg]; exact (below_size (qg1_ GE103.out)) : w.heap.size ≤ gb112))
       have n5_ := Aside0.mk ((by rw [hg]; exact (below_size (qg1_ GE103.out)) : w.heap.size ≤ gb112))
       have n6_ := Aside0.mk ((by rw [hg]; exact Nat.ne_of_lt (blk_lt (g := gb103) (o := .cells #[.int .i64 0, .int .i64 0, .int .i64 0, .int .i64 0, .slice none 0 0] 24 (0, 0)) (qb_ BK103.out)) : gb103 ≠ gb112))
       have n7_ := Aside0.mk ((by rw [hg]; exact Nat.ne_of_gt (blk_lt (g := gb103) (o := .cells #[.int .i64 0, .int .i64 0, .int .i64 0, .int .i64 0, .slice none 0 0] 24 (0, 0)) (qb_ BK103.out)) : gb112 ≠ gb103))
       clear HO111
       clear BK103
       clear HB
       have HO111 := n0_
       have BK103 := n1_
       have HB := n2_
       have BK112 := n3_
       have GW112 := n4_
       have GE112 := n5_
       have NB103_112 := n6_
       have NB112_103 := n7_
       clear n0_ n1_ n2_ n3_ n4_ n5_ n6_ n7_
       clear hb hbox hg
       refine hK.out _ _ ⟨(kc_ HB.out hw105_0), (kc_ HB.out hw106_0), (kc_ HB.out hw107_0), (kc_ HB.out hw108_0)⟩ (fun hHeld => ?_)
       clear hK K
       refine norm_ (a' := ?_) ?_ ?_
       rotate_left
       · show Act.put _ (some 7) _ = _
         simp only [Act.put, List.setIfInBounds_toArray, List.set_cons_zero, List.set_cons_succ, i64_w, i32_w]
         rfl
       exact norm_ (by simp only [putAll, Act.put, List.setIfInBounds_toArray, List.set_cons_zero, List.set_cons_succ]) (hCont (.slice Ao41 t109.length co41, gb112) _ ⟨hHeld, (qr_ HO111.out), (qb_ BK103.out), (qb_ BK112.out), GW112.out, GE112.out, NB103_112.out, NB112_103.out, (qg2_ GE103.out GE112.out)⟩)
     skip
     refine box_step ?hg (N := 7) ?hd (cs := #[.int .i64 0, .int .i64 0, .int .i64 0, .int .i64 0, .slice none 0 0]) (t := 24) ?hr ?_; (case hd => rfl); (case hg => rfl); (case hr => first | (go_simp; done) | (go_simp; rfl))
     intro gb112 hg w40 hbox hb
     have n0_ := Aside0.mk (blk_below (g := gb103) (o := .cells #[.int .i64 0, .int .i64 0, .int .i64 0, .int .i64 0, .slice none 0 0] 24 (0, 0)) (qb_ BK103.out) hb)
     have n1_ := Aside0.mk (below_step (qg1_ GE103.out) hb)
     have n2_ := Aside0.mk (hbox)
     have n3_ := Aside0.mk ((by rw [hg]; exact (below_size (qg1_ GE103.out)) : w.heap.size ≤ gb112))
     have n4_ := Aside0.mk ((by rw [hg]; exact (below_size (qg1_ GE103.out)) : w.heap.size ≤ gb112))
     have n5_ := Aside0.mk ((by rw [hg]; exact Nat.ne_of_lt (blk_lt (g := gb103) (o := .cells #[.int .i64 0, .int .i64 0, .int .i64 0, .int .i64 0, .slice none 0 0] 24 (0, 0)) (qb_ BK103.out)) : gb103 ≠ gb112))
     have n6_ := Aside0.mk ((by rw [hg]; exact Nat.ne_of_gt (blk_lt (g := gb103) (o := .cells #[.int .i64 0, .int .i64 0, .int .i64 0, .int .i64 0, .slice none 0 0] 24 (0, 0)) (qb_ BK103.out)) : gb112 ≠ gb103))
     clear BK103
     clear HB
     have BK103 := n0_
     have HB := n1_
     have BK112 := n2_
     have GW112 := n3_
     have GE112 := n4_
     have NB103_112 := n5_
     have NB112_103 := n6_
     clear n0_ n1_ n2_ n3_ n4_ n5_ n6_
     clear hb hbox hg
     refine hK.out _ _ ⟨(kc_ HB.out hw105_0), (kc_ HB.out hw106_0), (kc_ HB.out hw107_0), (kc_ HB.out hw108_0)⟩ (fun hHeld => ?_)
     clear hK K
     refine norm_ (a' := ?_) ?_ ?_
     rotate_left
     · show Act.put _ (some 7) _ = _
       simp only [Act.put, List.setIfInBounds_toArray, List.set_cons_zero, List.set_cons_succ, i64_w, i32_w]
       rfl
     refine one_ (i := 16) (N := some 43) #[true, true, true, true, true, true, true, true, true, true, true, true, true, true, true, true, true, false, true, false] rfl rfl (one_of HT_.out (by kernel_rfl)) (by decide) (fun K hK => ?_)
     refine goes_ Try.func45 (by kernel_rfl) rfl #[.slice (some ad105) ((l0.take ((wrap64 (16 * (wrap64 (a1 + 1)))) : Int).toNat).drop ((ji8) : Int).toNat).length (c0 - (ji8).toNat), .int .i64 0] (by rfl) rfl rfl (by (try simp only [List.map_toArray, List.map_cons, List.map_nil]); first | done | (rw [show ((l0.take ((wrap64 (16 * (wrap64 (a1 + 1)))) : Int).toNat).drop ((ji8) : Int).toNat).length = ((wrap64 (16 * (wrap64 (a1 + 1)))).toNat - (ji8).toNat) from (by rw [List.length_drop, List.length_take]; have h_ : ((wrap64 (16 * (wrap64 (a1 + 1)))) : Int) ≤ (l0.length : Int) := of_decide_eq_true (by first | (with_reducible assumption) | assumption); omega)] <;> rfl) | (simp only [hji8]; rfl) | rfl | (simp only [List.length_drop, List.length_take]; rfl)) ?_
     with_reducible refine (fast_Slots.calls _ _ ((l0.take ((wrap64 (16 * (wrap64 (a1 + 1)))) : Int).toNat).drop ((ji8) : Int).toNat) 0 t109 _ ?side1 ?side2 A15.out).mono ?_
     (case side1 => repeat (first | exact (Kd.C_below HR104.out HB.out) | (with_reducible refine Kd.C_alloc ?_ _) | (with_reducible refine Kd.C_drewN ?_ _) | (with_reducible refine Kd.C_drew ?_)))
     (case side2 => exact HC104.out)
     rintro e w41 ⟨v110, rfl, ho0, hb⟩
     refine ⟨_, rfl, ?_⟩
     have n0_ := Aside0.mk (Kd.R_lower ho0 (below_size (qg2_ GE103.out GE112.out)))
     have n1_ := Aside0.mk (blk_below (g := gb103) (o := .cells #[.int .i64 0, .int .i64 0, .int .i64 0, .int .i64 0, .slice none 0 0] 24 (0, 0)) (qb_ BK103.out) hb)
     have n2_ := Aside0.mk (blk_below (g := gb112) (o := .cells #[.int .i64 0, .int .i64 0, .int .i64 0, .int .i64 0, .slice none 0 0] 24 (0, 0)) (qb_ BK112.out) hb)
     have n3_ := Aside0.mk (below_step (qg2_ GE103.out GE112.out) hb)
     clear BK103
     clear BK112
     clear HB
     have HO111 := n0_
     have BK103 := n1_
     have BK112 := n2_
     have HB := n3_
     clear n0_ n1_ n2_ n3_
     (try clear hb)
     (try clear hb2)
     (try clear hk)
     (try clear hi)
     (try clear ho0)
     obtain ⟨Ao42, co42, eo42⟩ := Kd.R_slice HO111.out
     (first | subst eo42 | (injection eo42 with f1_ f2_ f3_; have f4_ := f1_.symm; have f5_ := f3_.symm; clear f1_ f2_ f3_; subst f4_; subst f5_))
     refine hK.out _ _ ⟨(kc_ HB.out hw105_0), (kc_ HB.out hw106_0), (kc_ HB.out hw107_0), (kc_ HB.out hw108_0)⟩ (fun hHeld => ?_)
     clear hK K
     refine norm_ (a' := ?_) ?_ ?_
     rotate_left
     · show Act.put _ (some 43) _ = _
       simp only [Act.put, List.setIfInBounds_toArray, List.set_cons_zero, List.set_cons_succ, i64_w, i32_w]
       rfl
     refine pure_ (i := 17) (N := some 44) (v := ?_) (a' := ?_) #[true, true, true, true, true, true, true, true, true, true, true, true, true, true, true, true, true, true, true, false] rfl rfl (any_of HT_.out (by kernel_rfl)) (fun _ _ _ h => h) (Or.inl ⟨by rfl, ?_⟩) ?_ ?_
     rotate_left
     · intro w'
       go_simp
       with_reducible rfl
     rotate_left
     · simp only [Act.put, List.setIfInBounds_toArray, List.set_cons_zero, List.set_cons_succ, i64_w, i32_w]
       rfl
     exact norm_ (by simp only [putAll, Act.put, List.setIfInBounds_toArray, List.set_cons_zero, List.set_cons_succ]) (hCont (.slice Ao42 t109.length co42, gb112) _ ⟨hHeld, (qr_ HO111.out), (qb_ BK103.out), (qb_ BK112.out), GW112.out, GE112.out, NB103_112.out, NB112_103.out, (qg2_ GE103.out GE112.out)⟩)
   rintro ⟨v110, gb112⟩ w43 ⟨hS_, h0_, h1_, h2_, h3_, h4_, h5_, h6_, h7_⟩
   have n0_ : Aside0 (Kd.R (Kd.int .i64) 3 w43 w.heap.size (fun _ => True) v110 t109) := ⟨h0_⟩
   have n1_ : Aside0 (w43.heap[gb103]? = some (.cells #[.int .i64 0, .int .i64 0, .int .i64 0, .int .i64 0, .slice none 0 0] 24 (0, 0))) := ⟨h1_⟩
   have n2_ : Aside0 (w43.heap[gb112]? = some (.cells #[.int .i64 0, .int .i64 0, .int .i64 0, .int .i64 0, .slice none 0 0] 24 (0, 0))) := ⟨h2_⟩
   have n3_ : Aside0 (w.heap.size ≤ gb112) := ⟨h3_⟩
   have n4_ : Aside0 (w.heap.size ≤ gb112) := ⟨h4_⟩
   have n5_ : Aside0 (gb103 ≠ gb112) := ⟨h5_⟩
   have n6_ : Aside0 (gb112 ≠ gb103) := ⟨h6_⟩
   have n7_ : Aside0 (Below w.heap.size w w43) := ⟨h7_⟩
   clear BK103
   clear HB
   clear h0_ h1_ h2_ h3_ h4_ h5_ h6_ h7_
   have HO111 := n0_
   have BK103 := n1_
   have BK112 := n2_
   have GW112 := n3_
   have GE112 := n4_
   have NB103_112 := n5_
   have NB112_103 := n6_
   have HB := n7_
   clear n0_ n1_ n2_ n3_ n4_ n5_ n6_ n7_
   have hHeld : w43.cell? ad105 = some (.int .i64 (rd ((l0.take ((wrap64 (16 * (wrap64 (a1 + 1)))) : Int).toNat).drop ((ji8) : Int).toNat) 0)) ∧ w43.cell? ad105 = some (.int .i64 (rd ((l0.take ((wrap64 (16 * (wrap64 (a1 + 1)))) : Int).toNat).drop ((ji8) : Int).toNat) 0)) ∧ w43.cell? ⟨ad105.block, ad105.off + 1, none⟩ = some (.int .i64 (rd ((l0.take ((wrap64 (16 * (wrap64 (a1 + 1)))) : Int).toNat).drop ((ji8) : Int).toNat) 1)) ∧ w43.cell? ⟨ad105.block, ad105.off + 2, none⟩ = some (.int .i64 (rd ((l0.take ((wrap64 (16 * (wrap64 (a1 + 1)))) : Int).toNat).drop ((ji8) : Int).toNat) 2)) := hS_
   obtain ⟨Ao44, co44, eo44⟩ := Kd.R_slice HO111.out
   (first | subst eo44 | (injection eo44 with f1_ f2_ f3_; have f4_ := f1_.symm; have f5_ := f3_.symm; clear f1_ f2_ f3_; subst f4_; subst f5_))
   refine norm_ (a' := ?_) ?_ ?_
   rotate_left
   · simp only [putAll, Act.put, List.setIfInBounds_toArray, List.set_cons_zero, List.set_cons_succ]
     rfl
   refine one_ (i := 19) (N := none) #[true, true, true, true, true, true, true, true, true, true, true, true, true, true, true, true, true, true, true, true] rfl rfl (one_of HT_.out (by kernel_rfl)) (by decide) (fun K hK => ?_)
   have hs45 : w43.cell? ⟨gb112, 0, none⟩ = some (.int .i64 0) := (blk_cell BK112.out 0).trans rfl
   have hfs45 := blk_frozen BK112.out 0
   have hns45_0 := NB103_112.out
   have hms45_0 := NB112_103.out
   have hs46 : w43.cell? ⟨gb112, 1, none⟩ = some (.int .i64 0) := (blk_cell BK112.out 1).trans rfl
   have hfs46 := blk_frozen BK112.out 1
   have hns46_0 := NB103_112.out
   have hms46_0 := NB112_103.out
   have hs47 : w43.cell? ⟨gb112, 2, none⟩ = some (.int .i64 0) := (blk_cell BK112.out 2).trans rfl
   have hfs47 := blk_frozen BK112.out 2
   have hns47_0 := NB103_112.out
   have hms47_0 := NB112_103.out
   have hs48 : w43.cell? ⟨gb112, 3, none⟩ = some (.int .i64 0) := (blk_cell BK112.out 3).trans rfl
   have hfs48 := blk_frozen BK112.out 3
   have hns48_0 := NB103_112.out
   have hms48_0 := NB112_103.out
   have hs49 : w43.cell? ⟨gb112, 4, none⟩ = some (.slice none 0 0) := (blk_cell BK112.out 4).trans rfl
   have hfs49 := blk_frozen BK112.out 4
   have hns49_0 := NB103_112.out
   have hms49_0 := NB112_103.out
   refine skip_ (w1 := ?_) (by rfl) rfl ?_ ?_
   rotate_left
   · go_simp
     rfl
   refine hK.out _ _ ⟨((cell_far (p := ⟨gb112, _, none⟩) (by first | exact Nat.ne_of_lt (Nat.lt_of_lt_of_le (kl_ hw105_0) GW112.out) | (rw [add_block]; exact Nat.ne_of_lt (Nat.lt_of_lt_of_le (kl_ hw105_0) GW112.out)) | (show (Addr.add _ _).block ≠ _; rw [add_block]; exact Nat.ne_of_lt (Nat.lt_of_lt_of_le (kl_ hw105_0) GW112.out)) | (dsimp only; exact Nat.ne_of_lt (Nat.lt_of_lt_of_le (kl_ hw105_0) GW112.out))) _).trans (((cell_far (p := ⟨gb112, _, none⟩) (by first | exact Nat.ne_of_lt (Nat.lt_of_lt_of_le (kl_ hw105_0) GW112.out) | (rw [add_block]; exact Nat.ne_of_lt (Nat.lt_of_lt_of_le (kl_ hw105_0) GW112.out)) | (show (Addr.add _ _).block ≠ _; rw [add_block]; exact Nat.ne_of_lt (Nat.lt_of_lt_of_le (kl_ hw105_0) GW112.out)) | (dsimp only; exact Nat.ne_of_lt (Nat.lt_of_lt_of_le (kl_ hw105_0) GW112.out))) _).trans (((cell_far (p := ⟨gb112, _, none⟩) (by first | exact Nat.ne_of_lt (Nat.lt_of_lt_of_le (kl_ hw105_0) GW112.out) | (rw [add_block]; exact Nat.ne_of_lt (Nat.lt_of_lt_of_le (kl_ hw105_0) GW112.out)) | (show (Addr.add _ _).block ≠ _; rw [add_block]; exact Nat.ne_of_lt (Nat.lt_of_lt_of_le (kl_ hw105_0) GW112.out)) | (dsimp only; exact Nat.ne_of_lt (Nat.lt_of_lt_of_le (kl_ hw105_0) GW112.out))) _).trans (((cell_far (p := ⟨gb112, _, none⟩) (by first | exact Nat.ne_of_lt (Nat.lt_of_lt_of_le (kl_ hw105_0) GW112.out) | (rw [add_block]; exact Nat.ne_of_lt (Nat.lt_of_lt_of_le (kl_ hw105_0) GW112.out)) | (show (Addr.add _ _).block ≠ _; rw [add_block]; exact Nat.ne_of_lt (Nat.lt_of_lt_of_le (kl_ hw105_0) GW112.out)) | (dsimp only; exact Nat.ne_of_lt (Nat.lt_of_lt_of_le (kl_ hw105_0) GW112.out))) _).trans (((cell_far (p := ⟨gb112, _, none⟩) (by first | exact Nat.ne_of_lt (Nat.lt_of_lt_of_le (kl_ hw105_0) GW112.out) | (rw [add_block]; exact Nat.ne_of_lt (Nat.lt_of_lt_of_le (kl_ hw105_0) GW112.out)) | (show (Addr.add _ _).block ≠ _; rw [add_block]; exact Nat.ne_of_lt (Nat.lt_of_lt_of_le (kl_ hw105_0) GW112.out)) | (dsimp only; exact Nat.ne_of_lt (Nat.lt_of_lt_of_le (kl_ hw105_0) GW112.out))) _).trans (hHeld.1)))))))))), ((cell_far (p := ⟨gb112, _, none⟩) (by first | exact Nat.ne_of_lt (Nat.lt_of_lt_of_le (kl_ hw106_0) GW112.out) | (rw [add_block]; exact Nat.ne_of_lt (Nat.lt_of_lt_of_le (kl_ hw106_0) GW112.out)) | (show (Addr.add _ _).block ≠ _; rw [add_block]; exact Nat.ne_of_lt (Nat.lt_of_lt_of_le (kl_ hw106_0) GW112.out)) | (dsimp only; exact Nat.ne_of_lt (Nat.lt_of_lt_of_le (kl_ hw106_0) GW112.out))) _).trans (((cell_far (p := ⟨gb112, _, none⟩) (by first | exact Nat.ne_of_lt (Nat.lt_of_lt_of_le (kl_ hw106_0) GW112.out) | (rw [add_block]; exact Nat.ne_of_lt (Nat.lt_of_lt_of_le (kl_ hw106_0) GW112.out)) | (show (Addr.add _ _).block ≠ _; rw [add_block]; exact Nat.ne_of_lt (Nat.lt_of_lt_of_le (kl_ hw106_0) GW112.out)) | (dsimp only; exact Nat.ne_of_lt (Nat.lt_of_lt_of_le (kl_ hw106_0) GW112.out))) _).trans (((cell_far (p := ⟨gb112, _, none⟩) (by first | exact Nat.ne_of_lt (Nat.lt_of_lt_of_le (kl_ hw106_0) GW112.out) | (rw [add_block]; exact Nat.ne_of_lt (Nat.lt_of_lt_of_le (kl_ hw106_0) GW112.out)) | (show (Addr.add _ _).block ≠ _; rw [add_block]; exact Nat.ne_of_lt (Nat.lt_of_lt_of_le (kl_ hw106_0) GW112.out)) | (dsimp only; exact Nat.ne_of_lt (Nat.lt_of_lt_of_le (kl_ hw106_0) GW112.out))) _).trans (((cell_far (p := ⟨gb112, _, none⟩) (by first | exact Nat.ne_of_lt (Nat.lt_of_lt_of_le (kl_ hw106_0) GW112.out) | (rw [add_block]; exact Nat.ne_of_lt (Nat.lt_of_lt_of_le (kl_ hw106_0) GW112.out)) | (show (Addr.add _ _).block ≠ _; rw [add_block]; exact Nat.ne_of_lt (Nat.lt_of_lt_of_le (kl_ hw106_0) GW112.out)) | (dsimp only; exact Nat.ne_of_lt (Nat.lt_of_lt_of_le (kl_ hw106_0) GW112.out))) _).trans (((cell_far (p := ⟨gb112, _, none⟩) (by first | exact Nat.ne_of_lt (Nat.lt_of_lt_of_le (kl_ hw106_0) GW112.out) | (rw [add_block]; exact Nat.ne_of_lt (Nat.lt_of_lt_of_le (kl_ hw106_0) GW112.out)) | (show (Addr.add _ _).block ≠ _; rw [add_block]; exact Nat.ne_of_lt (Nat.lt_of_lt_of_le (kl_ hw106_0) GW112.out)) | (dsimp only; exact Nat.ne_of_lt (Nat.lt_of_lt_of_le (kl_ hw106_0) GW112.out))) _).trans (hHeld.2.1)))))))))), ((cell_far (p := ⟨gb112, _, none⟩) (by first | exact Nat.ne_of_lt (Nat.lt_of_lt_of_le (kl_ hw107_0) GW112.out) | (rw [add_block]; exact Nat.ne_of_lt (Nat.lt_of_lt_of_le (kl_ hw107_0) GW112.out)) | (show (Addr.add _ _).block ≠ _; rw [add_block]; exact Nat.ne_of_lt (Nat.lt_of_lt_of_le (kl_ hw107_0) GW112.out)) | (dsimp only; exact Nat.ne_of_lt (Nat.lt_of_lt_of_le (kl_ hw107_0) GW112.out))) _).trans (((cell_far (p := ⟨gb112, _, none⟩) (by first | exact Nat.ne_of_lt (Nat.lt_of_lt_of_le (kl_ hw107_0) GW112.out) | (rw [add_block]; exact Nat.ne_of_lt (Nat.lt_of_lt_of_le (kl_ hw107_0) GW112.out)) | (show (Addr.add _ _).block ≠ _; rw [add_block]; exact Nat.ne_of_lt (Nat.lt_of_lt_of_le (kl_ hw107_0) GW112.out)) | (dsimp only; exact Nat.ne_of_lt (Nat.lt_of_lt_of_le (kl_ hw107_0) GW112.out))) _).trans (((cell_far (p := ⟨gb112, _, none⟩) (by first | exact Nat.ne_of_lt (Nat.lt_of_lt_of_le (kl_ hw107_0) GW112.out) | (rw [add_block]; exact Nat.ne_of_lt (Nat.lt_of_lt_of_le (kl_ hw107_0) GW112.out)) | (show (Addr.add _ _).block ≠ _; rw [add_block]; exact Nat.ne_of_lt (Nat.lt_of_lt_of_le (kl_ hw107_0) GW112.out)) | (dsimp only; exact Nat.ne_of_lt (Nat.lt_of_lt_of_le (kl_ hw107_0) GW112.out))) _).trans (((cell_far (p := ⟨gb112, _, none⟩) (by first | exact Nat.ne_of_lt (Nat.lt_of_lt_of_le (kl_ hw107_0) GW112.out) | (rw [add_block]; exact Nat.ne_of_lt (Nat.lt_of_lt_of_le (kl_ hw107_0) GW112.out)) | (show (Addr.add _ _).block ≠ _; rw [add_block]; exact Nat.ne_of_lt (Nat.lt_of_lt_of_le (kl_ hw107_0) GW112.out)) | (dsimp only; exact Nat.ne_of_lt (Nat.lt_of_lt_of_le (kl_ hw107_0) GW112.out))) _).trans (((cell_far (p := ⟨gb112, _, none⟩) (by first | exact Nat.ne_of_lt (Nat.lt_of_lt_of_le (kl_ hw107_0) GW112.out) | (rw [add_block]; exact Nat.ne_of_lt (Nat.lt_of_lt_of_le (kl_ hw107_0) GW112.out)) | (show (Addr.add _ _).block ≠ _; rw [add_block]; exact Nat.ne_of_lt (Nat.lt_of_lt_of_le (kl_ hw107_0) GW112.out)) | (dsimp only; exact Nat.ne_of_lt (Nat.lt_of_lt_of_le (kl_ hw107_0) GW112.out))) _).trans (hHeld.2.2.1)))))))))), ((cell_far (p := ⟨gb112, _, none⟩) (by first | exact Nat.ne_of_lt (Nat.lt_of_lt_of_le (kl_ hw108_0) GW112.out) | (rw [add_block]; exact Nat.ne_of_lt (Nat.lt_of_lt_of_le (kl_ hw108_0) GW112.out)) | (show (Addr.add _ _).block ≠ _; rw [add_block]; exact Nat.ne_of_lt (Nat.lt_of_lt_of_le (kl_ hw108_0) GW112.out)) | (dsimp only; exact Nat.ne_of_lt (Nat.lt_of_lt_of_le (kl_ hw108_0) GW112.out))) _).trans (((cell_far (p := ⟨gb112, _, none⟩) (by first | exact Nat.ne_of_lt (Nat.lt_of_lt_of_le (kl_ hw108_0) GW112.out) | (rw [add_block]; exact Nat.ne_of_lt (Nat.lt_of_lt_of_le (kl_ hw108_0) GW112.out)) | (show (Addr.add _ _).block ≠ _; rw [add_block]; exact Nat.ne_of_lt (Nat.lt_of_lt_of_le (kl_ hw108_0) GW112.out)) | (dsimp only; exact Nat.ne_of_lt (Nat.lt_of_lt_of_le (kl_ hw108_0) GW112.out))) _).trans (((cell_far (p := ⟨gb112, _, none⟩) (by first | exact Nat.ne_of_lt (Nat.lt_of_lt_of_le (kl_ hw108_0) GW112.out) | (rw [add_block]; exact Nat.ne_of_lt (Nat.lt_of_lt_of_le (kl_ hw108_0) GW112.out)) | (show (Addr.add _ _).block ≠ _; rw [add_block]; exact Nat.ne_of_lt (Nat.lt_of_lt_of_le (kl_ hw108_0) GW112.out)) | (dsimp only; exact Nat.ne_of_lt (Nat.lt_of_lt_of_le (kl_ hw108_0) GW112.out))) _).trans (((cell_far (p := ⟨gb112, _, none⟩) (by first | exact Nat.ne_of_lt (Nat.lt_of_lt_of_le (kl_ hw108_0) GW112.out) | (rw [add_block]; exact Nat.ne_of_lt (Nat.lt_of_lt_of_le (kl_ hw108_0) GW112.out)) | (show (Addr.add _ _).block ≠ _; rw [add_block]; exact Nat.ne_of_lt (Nat.lt_of_lt_of_le (kl_ hw108_0) GW112.out)) | (dsimp only; exact Nat.ne_of_lt (Nat.lt_of_lt_of_le (kl_ hw108_0) GW112.out))) _).trans (((cell_far (p := ⟨gb112, _, none⟩) (by first | exact Nat.ne_of_lt (Nat.lt_of_lt_of_le (kl_ hw108_0) GW112.out) | (rw [add_block]; exact Nat.ne_of_lt (Nat.lt_of_lt_of_le (kl_ hw108_0) GW112.out)) | (show (Addr.add _ _).block ≠ _; rw [add_block]; exact Nat.ne_of_lt (Nat.lt_of_lt_of_le (kl_ hw108_0) GW112.out)) | (dsimp only; exact Nat.ne_of_lt (Nat.lt_of_lt_of_le (kl_ hw108_0) GW112.out))) _).trans (hHeld.2.2.2))))))))))⟩ (fun hHeld => ?_)
   clear hK K
   refine done_ (done_of HT_.out (by kernel_rfl)) ?_
   have hnb50 := NB112_103.out
   have hnc50 := NB103_112.out
   have hcz51_0 : w43.cell? ⟨gb112, 0, none⟩ = some (.int .i64 0) := (blk_cell BK112.out 0).trans rfl
   have hcz51_1 : w43.cell? ⟨gb112, 1, none⟩ = some (.int .i64 0) := (blk_cell BK112.out 1).trans rfl
   have hcz51_2 : w43.cell? ⟨gb112, 2, none⟩ = some (.int .i64 0) := (blk_cell BK112.out 2).trans rfl
   have hcz51_3 : w43.cell? ⟨gb112, 3, none⟩ = some (.int .i64 0) := (blk_cell BK112.out 3).trans rfl
   have hcz51_4 : w43.cell? ⟨gb112, 4, none⟩ = some (.slice none 0 0) := (blk_cell BK112.out 4).trans rfl
   have hfz51_0 := blk_frozen BK112.out 0
   have hfz51_1 := blk_frozen BK112.out 1
   have hfz51_2 := blk_frozen BK112.out 2
   have hfz51_3 := blk_frozen BK112.out 3
   have hfz51_4 := blk_frozen BK112.out 4
   try go_wp2_with (first | ((with_reducible refine gate_callee (f := 46) rfl ?_); refine goesL_ (some 47) rfl rfl Try.func46 (by kernel_rfl) rfl #[.agg #[.int .i64 (Go.bits .and .i64 (rd ((l0.take ((wrap64 (16 * (wrap64 (a1 + 1)))) : Int).toNat).drop ((ji8) : Int).toNat) 0) 15), .int .i64 ((Go.bits .andNot .i64 (rd ((l0.take ((wrap64 (16 * (wrap64 (a1 + 1)))) : Int).toNat).drop ((ji8) : Int).toNat) 0) 1152921504606846976) / 16), .int .i64 (rd ((l0.take ((wrap64 (16 * (wrap64 (a1 + 1)))) : Int).toNat).drop ((ji8) : Int).toNat) 1), .int .i64 (rd ((l0.take ((wrap64 (16 * (wrap64 (a1 + 1)))) : Int).toNat).drop ((ji8) : Int).toNat) 2), .slice Ao44 t109.length co44]] rfl (by (try simp only [List.map_toArray, List.map_cons, List.map_nil]); first | done | (simp only [hji8]; rfl) | rfl | (simp only [List.length_drop, List.length_take]; rfl)) ?_; (with_reducible refine (node_Words.calls (Go.bits .and .i64 (rd ((l0.take ((wrap64 (16 * (wrap64 (a1 + 1)))) : Int).toNat).drop ((ji8) : Int).toNat) 0) 15) ((Go.bits .andNot .i64 (rd ((l0.take ((wrap64 (16 * (wrap64 (a1 + 1)))) : Int).toNat).drop ((ji8) : Int).toNat) 0) 1152921504606846976) / 16) (rd ((l0.take ((wrap64 (16 * (wrap64 (a1 + 1)))) : Int).toNat).drop ((ji8) : Int).toNat) 1) (rd ((l0.take ((wrap64 (16 * (wrap64 (a1 + 1)))) : Int).toNat).drop ((ji8) : Int).toNat) 2) _ _ t109 t113 t116 _ ?side1 ?side2 A16.out).mono ?_); (case side1 => refine (Kd.R_reads' (e := 3) (base := w.heap.size) (ok := fun k_ => True) (n := t109.length) (c := co44) ?_).2.2; exact (by (with_reducible repeat (first | apply Kd.R_alloc | apply Kd.R_drewN | apply Kd.R_drew)); exact (Kd.R_mono (Kd.R_far (p := ⟨gb112, 4, none⟩) (Kd.R_far (p := ⟨gb112, 3, none⟩) (Kd.R_far (p := ⟨gb112, 2, none⟩) (Kd.R_far (p := ⟨gb112, 1, none⟩) (Kd.R_far (p := ⟨gb112, 0, none⟩) (Kd.R_types HO111.out BK112.out (by decide)) (fun _ hk => hk.2) (.int .i64 (Go.bits .and .i64 (rd ((l0.take ((wrap64 (16 * (wrap64 (a1 + 1)))) : Int).toNat).drop ((ji8) : Int).toNat) 0) 15))) (fun _ hk => hk.2) (.int .i64 ((Go.bits .andNot .i64 (rd ((l0.take ((wrap64 (16 * (wrap64 (a1 + 1)))) : Int).toNat).drop ((ji8) : Int).toNat) 0) 1152921504606846976) / 16))) (fun _ hk => hk.2) (.int .i64 (rd ((l0.take ((wrap64 (16 * (wrap64 (a1 + 1)))) : Int).toNat).drop ((ji8) : Int).toNat) 1))) (fun _ hk => hk.2) (.int .i64 (rd ((l0.take ((wrap64 (16 * (wrap64 (a1 + 1)))) : Int).toNat).drop ((ji8) : Int).toNat) 2))) (fun _ hk => hk.2) (.slice Ao44 t109.length co44)) (fun _ h_ => h_.1)))); (case side2 => exact (Kd.R_reads' HO111.out).2.1); rintro e w52 ⟨v114, rfl, ho0, hb⟩; refine ⟨_, rfl, ?_⟩; have n0_ := Aside0.mk (Kd.R_elder' (by (with_reducible repeat (first | apply Kd.R_alloc | apply Kd.R_drewN | apply Kd.R_drew)); exact (Kd.R_mono (Kd.R_far (p := ⟨gb112, 4, none⟩) (Kd.R_far (p := ⟨gb112, 3, none⟩) (Kd.R_far (p := ⟨gb112, 2, none⟩) (Kd.R_far (p := ⟨gb112, 1, none⟩) (Kd.R_far (p := ⟨gb112, 0, none⟩) (Kd.R_types HO111.out BK112.out (by decide)) (fun _ hk => hk.2) (.int .i64 (Go.bits .and .i64 (rd ((l0.take ((wrap64 (16 * (wrap64 (a1 + 1)))) : Int).toNat).drop ((ji8) : Int).toNat) 0) 15))) (fun _ hk => hk.2) (.int .i64 ((Go.bits .andNot .i64 (rd ((l0.take ((wrap64 (16 * (wrap64 (a1 + 1)))) : Int).toNat).drop ((ji8) : Int).toNat) 0) 1152921504606846976) / 16))) (fun _ hk => hk.2) (.int .i64 (rd ((l0.take ((wrap64 (16 * (wrap64 (a1 + 1)))) : Int).toNat).drop ((ji8) : Int).toNat) 1))) (fun _ hk => hk.2) (.int .i64 (rd ((l0.take ((wrap64 (16 * (wrap64 (a1 + 1)))) : Int).toNat).drop ((ji8) : Int).toNat) 2))) (fun _ hk => hk.2) (.slice Ao44 t109.length co44)) (fun _ h_ => h_.1))) (Kd.R_base ho0) hb); have n1_ := Aside0.mk (Kd.R_lower (Kd.R_new' ho0 (Kd.R_lt (by (with_reducible repeat (first | apply Kd.R_alloc | apply Kd.R_drewN | apply Kd.R_drew)); exact (Kd.R_mono (Kd.R_far (p := ⟨gb112, 4, none⟩) (Kd.R_far (p := ⟨gb112, 3, none⟩) (Kd.R_far (p := ⟨gb112, 2, none⟩) (Kd.R_far (p := ⟨gb112, 1, none⟩) (Kd.R_far (p := ⟨gb112, 0, none⟩) (Kd.R_types HO111.out BK112.out (by decide)) (fun _ hk => hk.2) (.int .i64 (Go.bits .and .i64 (rd ((l0.take ((wrap64 (16 * (wrap64 (a1 + 1)))) : Int).toNat).drop ((ji8) : Int).toNat) 0) 15))) (fun _ hk => hk.2) (.int .i64 ((Go.bits .andNot .i64 (rd ((l0.take ((wrap64 (16 * (wrap64 (a1 + 1)))) : Int).toNat).drop ((ji8) : Int).toNat) 0) 1152921504606846976) / 16))) (fun _ hk => hk.2) (.int .i64 (rd ((l0.take ((wrap64 (16 * (wrap64 (a1 + 1)))) : Int).toNat).drop ((ji8) : Int).toNat) 1))) (fun _ hk => hk.2) (.int .i64 (rd ((l0.take ((wrap64 (16 * (wrap64 (a1 + 1)))) : Int).toNat).drop ((ji8) : Int).toNat) 2))) (fun _ hk => hk.2) (.slice Ao44 t109.length co44)) (fun _ h_ => h_.1))))) (below_size (qg2_ GE103.out GE112.out))); have n2_ := Aside0.mk (blk_below (g := gb103) (o := .cells #[.int .i64 0, .int .i64 0, .int .i64 0, .int .i64 0, .slice none 0 0] 24 (0, 0)) (by (with_reducible repeat (first | refine blk_drewN ?_ _ | refine blk_drew ?_ | refine blk_alloc ?_ _)); refine blk_far ?_ NB103_112.out _; (with_reducible repeat (first | refine blk_drewN ?_ _ | refine blk_drew ?_ | refine blk_alloc ?_ _)); refine blk_far ?_ NB103_112.out _; (with_reducible repeat (first | refine blk_drewN ?_ _ | refine blk_drew ?_ | refine blk_alloc ?_ _)); refine blk_far ?_ NB103_112.out _; (with_reducible repeat (first | refine blk_drewN ?_ _ | refine blk_drew ?_ | refine blk_alloc ?_ _)); refine blk_far ?_ NB103_112.out _; (with_reducible repeat (first | refine blk_drewN ?_ _ | refine blk_drew ?_ | refine blk_alloc ?_ _)); refine blk_far ?_ NB103_112.out _; (with_reducible repeat (first | refine blk_drewN ?_ _ | refine blk_drew ?_ | refine blk_alloc ?_ _)); exact BK103.out) hb); have n3_ := Aside0.mk (blk_below (g := gb112) (o := .cells #[.int .i64 (Go.bits .and .i64 (rd ((l0.take ((wrap64 (16 * (wrap64 (a1 + 1)))) : Int).toNat).drop ((ji8) : Int).toNat) 0) 15), .int .i64 ((Go.bits .andNot .i64 (rd ((l0.take ((wrap64 (16 * (wrap64 (a1 + 1)))) : Int).toNat).drop ((ji8) : Int).toNat) 0) 1152921504606846976) / 16), .int .i64 (rd ((l0.take ((wrap64 (16 * (wrap64 (a1 + 1)))) : Int).toNat).drop ((ji8) : Int).toNat) 1), .int .i64 (rd ((l0.take ((wrap64 (16 * (wrap64 (a1 + 1)))) : Int).toNat).drop ((ji8) : Int).toNat) 2), .slice Ao44 t109.length co44] 24 (0, 0)) (by (with_reducible repeat (first | refine blk_drewN ?_ _ | refine blk_drew ?_ | refine blk_alloc ?_ _)); refine blk_put (cs := #[.int .i64 (Go.bits .and .i64 (rd ((l0.take ((wrap64 (16 * (wrap64 (a1 + 1)))) : Int).toNat).drop ((ji8) : Int).toNat) 0) 15), .int .i64 ((Go.bits .andNot .i64 (rd ((l0.take ((wrap64 (16 * (wrap64 (a1 + 1)))) : Int).toNat).drop ((ji8) : Int).toNat) 0) 1152921504606846976) / 16), .int .i64 (rd ((l0.take ((wrap64 (16 * (wrap64 (a1 + 1)))) : Int).toNat).drop ((ji8) : Int).toNat) 1), .int .i64 (rd ((l0.take ((wrap64 (16 * (wrap64 (a1 + 1)))) : Int).toNat).drop ((ji8) : Int).toNat) 2), .slice none 0 0]) ?_ 4 _ rfl; (with_reducible repeat (first | refine blk_drewN ?_ _ | refine blk_drew ?_ | refine blk_alloc ?_ _)); refine blk_put (cs := #[.int .i64 (Go.bits .and .i64 (rd ((l0.take ((wrap64 (16 * (wrap64 (a1 + 1)))) : Int).toNat).drop ((ji8) : Int).toNat) 0) 15), .int .i64 ((Go.bits .andNot .i64 (rd ((l0.take ((wrap64 (16 * (wrap64 (a1 + 1)))) : Int).toNat).drop ((ji8) : Int).toNat) 0) 1152921504606846976) / 16), .int .i64 (rd ((l0.take ((wrap64 (16 * (wrap64 (a1 + 1)))) : Int).toNat).drop ((ji8) : Int).toNat) 1), .int .i64 0, .slice none 0 0]) ?_ 3 _ rfl; (with_reducible repeat (first | refine blk_drewN ?_ _ | refine blk_drew ?_ | refine blk_alloc ?_ _)); refine blk_put (cs := #[.int .i64 (Go.bits .and .i64 (rd ((l0.take ((wrap64 (16 * (wrap64 (a1 + 1)))) : Int).toNat).drop ((ji8) : Int).toNat) 0) 15), .int .i64 ((Go.bits .andNot .i64 (rd ((l0.take ((wrap64 (16 * (wrap64 (a1 + 1)))) : Int).toNat).drop ((ji8) : Int).toNat) 0) 1152921504606846976) / 16), .int .i64 0, .int .i64 0, .slice none 0 0]) ?_ 2 _ rfl; (with_reducible repeat (first | refine blk_drewN ?_ _ | refine blk_drew ?_ | refine blk_alloc ?_ _)); refine blk_put (cs := #[.int .i64 (Go.bits .and .i64 (rd ((l0.take ((wrap64 (16 * (wrap64 (a1 + 1)))) : Int).toNat).drop ((ji8) : Int).toNat) 0) 15), .int .i64 0, .int .i64 0, .int .i64 0, .slice none 0 0]) ?_ 1 _ rfl; (with_reducible repeat (first | refine blk_drewN ?_ _ | refine blk_drew ?_ | refine blk_alloc ?_ _)); refine blk_put (cs := #[.int .i64 0, .int .i64 0, .int .i64 0, .int .i64 0, .slice none 0 0]) ?_ 0 _ rfl; (with_reducible repeat (first | refine blk_drewN ?_ _ | refine blk_drew ?_ | refine blk_alloc ?_ _)); exact BK112.out) hb); have n4_ := Aside0.mk (below_step (qg2_ GE103.out GE112.out) hb); clear HO111; clear BK103; clear BK112; clear HB; have HO111 := n0_; have HO115 := n1_; have BK103 := n2_; have BK112 := n3_; have HB := n4_; clear n0_ n1_ n2_ n3_ n4_; (try clear hb); (try clear hb2); (try clear hk); (try clear hi); (try clear ho0); obtain ⟨Ao53, co53, eo53⟩ := Kd.R_slice HO115.out; subst eo53) | (go_at_call 47; (conv => (arg 3; rw [HLEN.out])); (with_reducible refine (slices_Equal_int_int.calls kj2 _ _ t113 _ _ ((l0.take ((wrap64 (16 * (wrap64 (a1 + 1)))) : Int).toNat).drop ((ji8) : Int).toNat) false _ ?side1 ?side2 ?side3 ?side4 A18.out).mono ?_); (case side1 => repeat (first | exact (Kd.R_reads' HO115.out).2.2 | (with_reducible refine Kd.C_alloc ?_ _) | (with_reducible refine Kd.C_drewN ?_ _) | (with_reducible refine Kd.C_drew ?_))); (case side2 => exact (Kd.R_reads' HO115.out).2.1); (case side3 => repeat (first | exact (Kd.C_below HR104.out HB.out) | (with_reducible refine Kd.C_alloc ?_ _) | (with_reducible refine Kd.C_drewN ?_ _) | (with_reducible refine Kd.C_drew ?_))); (case side4 => exact HC104.out); rintro e w' ⟨rfl, ⟨nd, rfl⟩⟩; (try (rw [drewN_self w52]; generalize hq_ : World.drewN w52 _ = w52; have n0_ : Aside0 (Kd.R (Kd.int .i64) 3 w52 w.heap.size (fun k_ => some k_ ≠ (.slice Ao53 t113.length co53 : Value).ownBlock) (.slice Ao44 t109.length co44) t109) := ⟨by rw [← hq_]; exact (by (with_reducible repeat (first | apply Kd.R_alloc | apply Kd.R_drewN | apply Kd.R_drew)); exact Kd.R_mono HO111.out (fun _ hk => hk.2))⟩; have n1_ : Aside0 (Kd.R (Kd.int .i64) 3 w52 w.heap.size (fun k_ => some k_ ≠ (.slice Ao44 t109.length co44 : Value).ownBlock) (.slice Ao53 t113.length co53) t113) := ⟨by rw [← hq_]; exact (by (with_reducible repeat (first | apply Kd.R_alloc | apply Kd.R_drewN | apply Kd.R_drew)); exact Kd.R_mono HO115.out (fun _ hk => hk.2))⟩; have n2_ : Aside0 (w52.heap[gb103]? = some (.cells #[.int .i64 0, .int .i64 0, .int .i64 0, .int .i64 0, .slice none 0 0] 24 (0, 0))) := ⟨by rw [← hq_]; exact (qb_ BK103.out)⟩; have n3_ : Aside0 (w52.heap[gb112]? = some (.cells #[.int .i64 (Go.bits .and .i64 (rd ((l0.take ((wrap64 (16 * (wrap64 (a1 + 1)))) : Int).toNat).drop ((ji8) : Int).toNat) 0) 15), .int .i64 ((Go.bits .andNot .i64 (rd ((l0.take ((wrap64 (16 * (wrap64 (a1 + 1)))) : Int).toNat).drop ((ji8) : Int).toNat) 0) 1152921504606846976) / 16), .int .i64 (rd ((l0.take ((wrap64 (16 * (wrap64 (a1 + 1)))) : Int).toNat).drop ((ji8) : Int).toNat) 1), .int .i64 (rd ((l0.take ((wrap64 (16 * (wrap64 (a1 + 1)))) : Int).toNat).drop ((ji8) : Int).toNat) 2), .slice Ao44 t109.length co44] 24 (0, 0))) := ⟨by rw [← hq_]; exact (qb_ BK112.out)⟩; have n4_ : Aside0 (Below w.heap.size w w52) := ⟨by rw [← hq_]; exact (qg2_ GE103.out GE112.out)⟩; clear HO111 HO115 BK103 BK112 HB hq_; have HO111 := n0_; have HO115 := n1_; have BK103 := n2_; have BK112 := n3_; have HB := n4_; clear n0_ n1_ n2_ n3_ n4_)); have hcz54_0 : w52.cell? ⟨gb103, 0, none⟩ = some (.int .i64 0) := (blk_cell BK103.out 0).trans rfl; have hcz54_1 : w52.cell? ⟨gb103, 1, none⟩ = some (.int .i64 0) := (blk_cell BK103.out 1).trans rfl; have hcz54_2 : w52.cell? ⟨gb103, 2, none⟩ = some (.int .i64 0) := (blk_cell BK103.out 2).trans rfl; have hcz54_3 : w52.cell? ⟨gb103, 3, none⟩ = some (.int .i64 0) := (blk_cell BK103.out 3).trans rfl; have hcz54_4 : w52.cell? ⟨gb103, 4, none⟩ = some (.slice none 0 0) := (blk_cell BK103.out 4).trans rfl; have hfz54_0 := blk_frozen BK103.out 0; have hfz54_1 := blk_frozen BK103.out 1; have hfz54_2 := blk_frozen BK103.out 2; have hfz54_3 := blk_frozen BK103.out 3; have hfz54_4 := blk_frozen BK103.out 4))
   refine bodyPost_ret (results_ct rfl _ _ gb103 24 #[.int .i64 0, .int .i64 0, .int .i64 0, .int .i64 0, .slice none 0 0] (0, 0) _ rfl (by (with_reducible repeat (first | refine blk_drewN ?_ _ | refine blk_drew ?_ | refine blk_alloc ?_ _)); refine blk_put (cs := #[.int .i64 0, .int .i64 0, .int .i64 0, .int .i64 0, .slice none 0 0]) ?_ 4 _ rfl; (with_reducible repeat (first | refine blk_drewN ?_ _ | refine blk_drew ?_ | refine blk_alloc ?_ _)); refine blk_put (cs := #[.int .i64 0, .int .i64 0, .int .i64 0, .int .i64 0, .slice none 0 0]) ?_ 3 _ rfl; (with_reducible repeat (first | refine blk_drewN ?_ _ | refine blk_drew ?_ | refine blk_alloc ?_ _)); refine blk_put (cs := #[.int .i64 0, .int .i64 0, .int .i64 0, .int .i64 0, .slice none 0 0]) ?_ 2 _ rfl; (with_reducible repeat (first | refine blk_drewN ?_ _ | refine blk_drew ?_ | refine blk_alloc ?_ _)); refine blk_put (cs := #[.int .i64 0, .int .i64 0, .int .i64 0, .int .i64 0, .slice none 0 0]) ?_ 1 _ rfl; (with_reducible repeat (first | refine blk_drewN ?_ _ | refine blk_drew ?_ | refine blk_alloc ?_ _)); refine blk_put (cs := #[.int .i64 0, .int .i64 0, .int .i64 0, .int .i64 0, .slice none 0 0]) ?_ 0 _ rfl; (with_reducible repeat (first | refine blk_drewN ?_ _ | refine blk_drew ?_ | refine blk_alloc ?_ _)); exact BK103.out) Try.underlying24 rfl (by kernel_rfl)) rfl ?_
   exact ⟨_, by first | rfl | (simp [errW_none, errW_some] <;> rfl) | (simp only [← hji8]; first | rfl | (simp [errW_none, errW_some] <;> rfl)) | (simp [*, errW_none, errW_some] <;> rfl), by first | exact Kd.R_nil _ _ _ _ _ | exact Kd.N_nil _ _ _ _ _ | exact Kd.V_nil _ _ _ _ _ | exact Kd.Q_nil _ _ _ _ _ | exact Kd.S_nil _ _ _ _ _, by repeat (first | (with_reducible first | exact HB.out | apply below_alloc | apply pw_below_drewN | apply below_drew1 | refine below_set ?_ GE103.out | refine below_set ?_ GE112.out) | exact HB.out)⟩

end
end Go.Proofs.Ytliaemoomhfcdaa.NR
