/- Several texts of this seat, joined: SUx3, SLx0, SLx1, ChainW, LeavesW, Shelf, PlainW, CheckW. -/
import Derived.Test.YtliaemoomhfcdaaMQ
import Derived.Test.YtliaemoomhfcdaaMC
import Derived.Test.YtliaemoomhfcdaaMA
import Derived.Test.YtliaemoomhfcdaaProg
import Derived.Below
import Derived.Deep.Draws
import Derived.Deep.AppendLies
import Derived.Maps.AppendAt
import Derived.OwnWalk
import Derived.Laws.BytesArg
import Derived.Laws.MakeOwn
import Derived.Laws.OwnMore
import Derived.Deep.OwnRows
import Derived.Tactics
import Derived.Lib.ConvBytes
import Derived.Laws.Slices
import Derived.WalkKit
import Derived.KernelRfl
import Derived.RowKit3
import Derived.Deep.LoopGhost
import Derived.Deep.QuietTactic
import Derived.BigQuiet
import Derived.WideLaws
import Derived.Deep.DeepCutAuto
import Derived.Deep.CutBlock
import Derived.Deep.RegionHeld3
import Derived.Laws.Rows
import Derived.Lib.AppendStr
import Derived.ArgAppend
import Derived.Laws.IdiomCopy
import Derived.OrdersHeld
import Derived.Laws.BitsLemmas
import Derived.RowKit
import Derived.Test.YtliaemoomhfcdaaMW
import Derived.Shelf.Slices.Turned
import Derived.Shelf.Slices.Equal
import Derived.Ground.Names2Prog
import Derived.Shelf.Slices.Clone
import Derived.Shelf.Slices.CompactI
import Derived.Shelf.Slices.Cells
import Derived.Shelf.Slices.Empties2
namespace Go.Proofs.Ytliaemoomhfcdaa.SU
open Go.RowKit Go.Proofs.YtliaemoomhfcdaaW.PrintWords Go.Proofs.YtliaemoomhfcdaaW.PrintLast Go.Proofs.YtliaemoomhfcdaaW.PrintMore
attribute [local go_sem] max2_int min2_int max_two min_two max_three min_three max_four min_four   -- for this text's walks alone
set_option linter.unusedVariables false
set_option linter.unusedSimpArgs false
noncomputable section

attribute [local go_sem high] eqA90
/-! ### super_Read: function 31 -/
mutual
def super_Read.j0 : Nat → List Int → Bool → Int → Int → Int → Int → Option (Int × Int × Int)
  | 0, _, _, _, _, _, _ => none
  | k + 1, x0, x43, x108000, x108001, x108002, x108003 => if x43 = true then (some (0, 0, 80)) else (if 4 ≤ 16 then (if 16 ≤ (x0.length : Int) then (super_Read.l0 k ((x0.take 16).drop 4) (((x0.take 16).drop 4).length : Int) 0 x108000 x108001 x108002 x108003) else (none)) else (none))
def super_Read.l0 : Nat → List Int → Int → Int → Int → Int → Int → Int → Option (Int × Int × Int)
  | 0, _, _, _, _, _, _, _ => none
  | k + 1, x45, x46, x47, x108000, x108001, x108002, x108003 => if x47 < x46 then (if 0 ≤ x47 then (if x47 < (x45.length : Int) then (if (rd x45 x47) = 0 then (super_Read.l0 k x45 x46 (wrap64 (x47 + 1)) x108000 x108001 x108002 x108003) else (some (0, 0, 80))) else (none)) else (none)) else (some (x108001, x108003, 0))
end
def super_Read.f (k : Nat) (l0 : List Int) : Option (Int × Int × Int) := if (l0.length : Int) < 32 then (some (0, 0, 80)) else (if 0 < (l0.length : Int) then (if 1 < (l0.length : Int) then (if 2 < (l0.length : Int) then (if 3 < (l0.length : Int) then ((super_of.f (rd l0 1) (rd l0 3)).bind fun bt112 => (if (!((rd l0 0) == bt112.1) || (!((rd l0 1) == bt112.2.1) || (!((rd l0 2) == bt112.2.2.1) || (!((rd l0 3) == bt112.2.2.2))))) = true then (super_Read.j0 k l0 true (rd l0 0) (rd l0 1) (rd l0 2) (rd l0 3)) else ((super_head_may.f (rd l0 0) (rd l0 1) (rd l0 2) (rd l0 3)).bind fun t116 => (if t116 = true then (super_Read.j0 k l0 ((rd l0 1) != (wrap64 ((l0.length : Int) / 16))) (rd l0 0) (rd l0 1) (rd l0 2) (rd l0 3)) else (super_Read.j0 k l0 true (rd l0 0) (rd l0 1) (rd l0 2) (rd l0 3)))))) else (none)) else (none)) else (none)) else (none))
theorem super_Read.mono_l : ∀ k, (∀ y0 y1 y2 y3 y4 y5, LeO (super_Read.j0 k y0 y1 y2 y3 y4 y5) (super_Read.j0 (k + 1) y0 y1 y2 y3 y4 y5)) ∧ (∀ y0 y1 y2 y3 y4 y5 y6, LeO (super_Read.l0 k y0 y1 y2 y3 y4 y5 y6) (super_Read.l0 (k + 1) y0 y1 y2 y3 y4 y5 y6))
  | 0 => ⟨fun _ _ _ _ _ _ r h => by simp [super_Read.j0] at h, fun _ _ _ _ _ _ _ r h => by simp [super_Read.l0] at h⟩
  | k + 1 => by
    obtain ⟨ih0, ih1⟩ := super_Read.mono_l k
    refine ⟨?_, ?_⟩
    · intro y0 y1 y2 y3 y4 y5
      unfold super_Read.j0
      repeat' first
      | (with_reducible exact ih0 _ _ _ _ _ _)
      | (with_reducible exact ih1 _ _ _ _ _ _ _)
      | (with_reducible exact LeO.refl _)
      | (with_reducible exact LeO.none _)
      | (with_reducible refine LeO.ite ?_ ?_)
      | (with_reducible refine LeO.bind ?_ (fun _ => ?_))
      | exact ih0 _ _ _ _ _ _
      | exact ih1 _ _ _ _ _ _ _
      | exact LeO.none _
      | refine LeO.ite ?_ ?_
      | refine LeO.bind ?_ (fun _ => ?_)
    · intro y0 y1 y2 y3 y4 y5 y6
      unfold super_Read.l0
      repeat' first
      | (with_reducible exact ih0 _ _ _ _ _ _)
      | (with_reducible exact ih1 _ _ _ _ _ _ _)
      | (with_reducible exact LeO.refl _)
      | (with_reducible exact LeO.none _)
      | (with_reducible refine LeO.ite ?_ ?_)
      | (with_reducible refine LeO.bind ?_ (fun _ => ?_))
      | exact ih0 _ _ _ _ _ _
      | exact ih1 _ _ _ _ _ _ _
      | exact LeO.none _
      | refine LeO.ite ?_ ?_
      | refine LeO.bind ?_ (fun _ => ?_)
theorem super_Read.mono : ∀ a0 k, LeO (super_Read.f k a0) (super_Read.f (k + 1) a0) := by
 intro a0 k
 obtain ⟨ih0, ih1⟩ := super_Read.mono_l k
 unfold super_Read.f
 repeat' first
     | (with_reducible exact ih0 _ _ _ _ _ _)
     | (with_reducible exact ih1 _ _ _ _ _ _ _)
     | (with_reducible exact LeO.refl _)
     | (with_reducible exact LeO.none _)
     | (with_reducible refine LeO.ite ?_ ?_)
     | (with_reducible refine LeO.bind ?_ (fun _ => ?_))
     | exact ih0 _ _ _ _ _ _
     | exact ih1 _ _ _ _ _ _ _
     | exact LeO.none _
     | refine LeO.ite ?_ ?_
     | refine LeO.bind ?_ (fun _ => ?_)
def super_Read.T3 : Bool × List (List Nat × List Nat) := (true, [([], []), ([0], [0]), ([1], [1]), ([], []), ([3], [3]), ([4], [4]), ([], []), ([6], [6]), ([7], [7]), ([], []), ([9], [9]), ([10], [10]), ([2, 5, 8, 11], [2, 5, 8, 11]), ([12, 0, 1, 2, 3, 4, 5, 6, 7, 8, 9, 10, 11, 12], [12])])
def super_Read.B3 : List Nat := [0, 1, 3, 0, 8, 24, 0, 64, 192, 0, 512, 1536, 4095, 8191]
theorem super_Read.tab3 : rtab .any (opsOf Try.f31 3) = super_Read.T3 := by kernel_rfl
theorem super_Read.bits3 : waitsOk super_Read.T3.2 super_Read.B3 = true := by kernel_rfl
def super_Read.T4 : Bool × List (List Nat × List Nat) := (true, [([], []), ([], []), ([1], [1]), ([], []), ([3], [3]), ([2, 4], [2, 4]), ([0, 5], [0, 5]), ([6, 5], [6]), ([7], [7]), ([8, 7, 7], [7, 8]), ([9, 7], [7, 9]), ([7, 10], [7, 10]), ([11, 9], [11]), ([12], [12]), ([13, 12], [12, 13]), ([12], [12]), ([15, 12], [12, 15]), ([16, 12], [12, 16]), ([14, 17, 12], [12, 14, 17]), ([12, 18], [12, 18])])
def super_Read.B4 : List Nat := [0, 0, 2, 0, 8, 30, 63, 127, 255, 511, 1023, 2047, 4095, 8191, 16383, 8191, 40959, 106495, 262143, 524287]
theorem super_Read.tab4 : rtab .any (opsOf Try.f31 4) = super_Read.T4 := by kernel_rfl
theorem super_Read.bits4 : waitsOk super_Read.T4.2 super_Read.B4 = true := by kernel_rfl
set_option maxHeartbeats 8000000 in
set_option maxRecDepth 100000 in
theorem super_Read.calls (k : Nat) (A0 : Option Addr) (c0 : Nat) (l0 : List Int) (r1 : Int) (r2 : Int) (r3 : Int) (w : World) (hr0 : Kd.C (Kd.int .i64) w A0 l0.length l0) (hc0 : l0.length ≤ c0) (h : super_Read.f k l0 = some (r1, r2, r3)) :
    Calls Try.prog 31 #[.slice A0 l0.length c0] w fun e w' => e = .returned (.tuple #[.int .i64 r1, .int .i64 r2, .int .i64 r3]) ∧ Below w.heap.size w w' := by
 have hu90 := Try.underlying90
 have HR0 := Aside0.mk hr0
 have HC0 := Aside0.mk hc0
 clear hr0 hc0
 have HB := Aside0.mk (Below.refl w.heap.size w)
 have H : (if (l0.length : Int) < 32 then (some (0, 0, 80)) else (if 0 < (l0.length : Int) then (if 1 < (l0.length : Int) then (if 2 < (l0.length : Int) then (if 3 < (l0.length : Int) then ((super_of.f (rd l0 1) (rd l0 3)).bind fun bt112 => (if (!((rd l0 0) == bt112.1) || (!((rd l0 1) == bt112.2.1) || (!((rd l0 2) == bt112.2.2.1) || (!((rd l0 3) == bt112.2.2.2))))) = true then (super_Read.j0 k l0 true (rd l0 0) (rd l0 1) (rd l0 2) (rd l0 3)) else ((super_head_may.f (rd l0 0) (rd l0 1) (rd l0 2) (rd l0 3)).bind fun t116 => (if t116 = true then (super_Read.j0 k l0 ((rd l0 1) != (wrap64 ((l0.length : Int) / 16))) (rd l0 0) (rd l0 1) (rd l0 2) (rd l0 3)) else (super_Read.j0 k l0 true (rd l0 0) (rd l0 1) (rd l0 2) (rd l0 3)))))) else (none)) else (none)) else (none)) else (none))) = some (r1, r2, r3) := h
 clear h
 by_cases c2 : (l0.length : Int) < 32
 · rw [if_pos c2] at H
   have c2b0 : decide ((l0.length : Int) < 32) = true := decide_eq_true c2
   have c2b1 : decide (l0.length < 32) = true := decide_eq_true (by omega)
   clear c2
   simp only [Option.some.injEq, Prod.mk.injEq] at H
   obtain ⟨rfl, rfl, rfl⟩ := H
   go_enter Try.func31, Try.ntmps31
   go_wp2
   refine wp_scope_fwd 0 rfl ?_
   go_wp2_with (first | ((with_reducible refine gate_dst (N := 5) rfl ?_); (try (refine gate_guard (by rfl) ?_; dsimp only)); refine box_event ?hg (N := 5) ?hd (cs := #[.int .i64 0, .int .i64 0, .int .i64 0, .int .i64 0]) (t := 90) ?hr ?_; (case hd => rfl); (case hg => rfl); (case hr => first | (go_simp; done) | (go_simp; rfl)); intro gb107 hg w3 hbox hb; have n0_ := Aside0.mk (below_step qh_ hb); have n1_ := Aside0.mk (hbox); have n2_ := Aside0.mk ((by rw [hg]; exact (below_size qh_) : w.heap.size ≤ gb107)); have n3_ := Aside0.mk ((by rw [hg]; exact (below_size qh_) : w.heap.size ≤ gb107)); clear HB; have HB := n0_; have BK107 := n1_; have GW107 := n2_; have GE107 := n3_; clear n0_ n1_ n2_ n3_; clear hb hbox hg))
   (try (go_step3; (try refine And.intro rfl ?_); (try show Code.wp _ _ _ _ _); go_wp2))
   (first | go_ret3 | (rw [jumpret]; go_ret3) | (rw [Exit.noGoto_ret]; go_ret3))
   exact ⟨qe_, by repeat (first | (with_reducible first | exact HB.out | apply below_alloc | apply pw_below_drewN | apply below_drew1 | refine below_set ?_ GE107.out) | exact HB.out)⟩
 rw [if_neg c2] at H
 have c2b0 : decide ((l0.length : Int) < 32) = false := decide_eq_false c2
 have c2b1 : decide (l0.length < 32) = false := decide_eq_false (by omega)
 clear c2
 by_cases c4 : 0 < (l0.length : Int)
 rotate_left
 · rw [if_neg c4] at H
   exact absurd H (by simp)
 rw [if_pos c4] at H
 have c4b0 : decide (0 < (l0.length : Int)) = true := decide_eq_true c4
 have c4b1 : decide (0 < l0.length) = true := decide_eq_true (by omega)
 clear c4
 by_cases c5 : 1 < (l0.length : Int)
 rotate_left
 · rw [if_neg c5] at H
   exact absurd H (by simp)
 rw [if_pos c5] at H
 have c5b0 : decide (1 < (l0.length : Int)) = true := decide_eq_true c5
 have c5b1 : decide (1 < l0.length) = true := decide_eq_true (by omega)
 clear c5
 by_cases c6 : 2 < (l0.length : Int)
 rotate_left
 · rw [if_neg c6] at H
   exact absurd H (by simp)
 rw [if_pos c6] at H
 have c6b0 : decide (2 < (l0.length : Int)) = true := decide_eq_true c6
 have c6b1 : decide (2 < l0.length) = true := decide_eq_true (by omega)
 clear c6
 by_cases c7 : 3 < (l0.length : Int)
 rotate_left
 · rw [if_neg c7] at H
   exact absurd H (by simp)
 rw [if_pos c7] at H
 have c7b0 : decide (3 < (l0.length : Int)) = true := decide_eq_true c7
 have c7b1 : decide (3 < l0.length) = true := decide_eq_true (by omega)
 clear c7
 have HC8 := Aside0.mk H
 clear H
 go_enter Try.func31, Try.ntmps31
 go_wp2
 refine wp_scope_fwd 0 rfl ?_
 try go_wp2_with (first | ((with_reducible refine gate_dst (N := 5) rfl ?_); (try (refine gate_guard (by rfl) ?_; dsimp only)); refine box_event ?hg (N := 5) ?hd (cs := #[.int .i64 0, .int .i64 0, .int .i64 0, .int .i64 0]) (t := 90) ?hr ?_; (case hd => rfl); (case hg => rfl); (case hr => first | (go_simp; done) | (go_simp; rfl)); intro gb107 hg w9 hbox hb; have n0_ := Aside0.mk (below_step qh_ hb); have n1_ := Aside0.mk (hbox); have n2_ := Aside0.mk ((by rw [hg]; exact (below_size qh_) : w.heap.size ≤ gb107)); have n3_ := Aside0.mk ((by rw [hg]; exact (below_size qh_) : w.heap.size ≤ gb107)); clear HB; have HB := n0_; have BK107 := n1_; have GW107 := n2_; have GE107 := n3_; clear n0_ n1_ n2_ n3_; clear hb hbox hg))
 have n0_ := Aside0.mk (blk_drew BK107.out)
 have n1_ := Aside0.mk (below_drew1 HB.out)
 clear BK107
 clear HB
 have BK107 := n0_
 have HB := n1_
 clear n0_ n1_
 have p108 : 0 ≤ (0 : Int) := (by omega)
 have q108 : 0 < (l0.length : Int) := of_decide_eq_true (by first | (with_reducible assumption) | assumption)
 obtain ⟨ad108, e108, hx108_0⟩ := Kd.at_int HR0.out 0 p108 q108
 have hw108_0 := hx108_0
 (try rw [show ((0 : Int)).toNat = 0 from rfl] at hw108_0)
 (try rw [show 0 * 1 = 0 from rfl] at hw108_0)
 (try rw [Addr.add_zero'] at hw108_0)
 cases e108
 have qi108 : (0 < l0.length) = True := eq_true (by omega)
 (try rw [show ((0 : Int)).toNat = 0 from rfl] at hx108_0)
 (try rw [Addr.add_zero'] at hx108_0)
 replace hx108_0 := kc_ HB.out hx108_0
 replace p108 := eq_true p108
 replace q108 := eq_true q108
 have p109 : 0 ≤ (1 : Int) := (by omega)
 have q109 : 1 < (l0.length : Int) := of_decide_eq_true (by first | (with_reducible assumption) | assumption)
 obtain ⟨ad109, e109, hx109_0⟩ := Kd.at_int HR0.out 1 p109 q109
 have hw109_0 := hx109_0
 (try rw [show ((1 : Int)).toNat = 1 from rfl] at hw109_0)
 (try rw [show 1 * 1 = 1 from rfl] at hw109_0)
 (try simp only [Nat.reduceMul, Nat.reduceEqDiff, Go.Addr.add, ↓reduceIte] at hw109_0)
 obtain rfl : ad108 = ad109 := (by injection e109)
 (try simp only [show (1 : Int).toNat = 1 from rfl, Nat.reduceMul, Nat.reduceEqDiff, Go.Addr.add, ↓reduceIte] at hx109_0)
 have qi109 : (1 < l0.length) = True := eq_true (by omega)
 (try rw [show ((1 : Int)).toNat = 1 from rfl] at hx109_0)
 replace hx109_0 := kc_ HB.out hx109_0
 replace p109 := eq_true p109
 replace q109 := eq_true q109
 have p110 : 0 ≤ (2 : Int) := (by omega)
 have q110 : 2 < (l0.length : Int) := of_decide_eq_true (by first | (with_reducible assumption) | assumption)
 obtain ⟨ad110, e110, hx110_0⟩ := Kd.at_int HR0.out 2 p110 q110
 have hw110_0 := hx110_0
 (try rw [show ((2 : Int)).toNat = 2 from rfl] at hw110_0)
 (try rw [show 2 * 1 = 2 from rfl] at hw110_0)
 (try simp only [Nat.reduceMul, Nat.reduceEqDiff, Go.Addr.add, ↓reduceIte] at hw110_0)
 obtain rfl : ad108 = ad110 := (by injection e110)
 (try simp only [show (2 : Int).toNat = 2 from rfl, Nat.reduceMul, Nat.reduceEqDiff, Go.Addr.add, ↓reduceIte] at hx110_0)
 have qi110 : (2 < l0.length) = True := eq_true (by omega)
 (try rw [show ((2 : Int)).toNat = 2 from rfl] at hx110_0)
 replace hx110_0 := kc_ HB.out hx110_0
 replace p110 := eq_true p110
 replace q110 := eq_true q110
 have p111 : 0 ≤ (3 : Int) := (by omega)
 have q111 : 3 < (l0.length : Int) := of_decide_eq_true (by first | (with_reducible assumption) | assumption)
 obtain ⟨ad111, e111, hx111_0⟩ := Kd.at_int HR0.out 3 p111 q111
 have hw111_0 := hx111_0
 (try rw [show ((3 : Int)).toNat = 3 from rfl] at hw111_0)
 (try rw [show 3 * 1 = 3 from rfl] at hw111_0)
 (try simp only [Nat.reduceMul, Nat.reduceEqDiff, Go.Addr.add, ↓reduceIte] at hw111_0)
 obtain rfl : ad108 = ad111 := (by injection e111)
 (try simp only [show (3 : Int).toNat = 3 from rfl, Nat.reduceMul, Nat.reduceEqDiff, Go.Addr.add, ↓reduceIte] at hx111_0)
 have qi111 : (3 < l0.length) = True := eq_true (by omega)
 (try rw [show ((3 : Int)).toNat = 3 from rfl] at hx111_0)
 replace hx111_0 := kc_ HB.out hx111_0
 replace p111 := eq_true p111
 replace q111 := eq_true q111
 refine start_ (n := 14) (S := fun w' => w'.cell? ad108 = some (.int .i64 (rd l0 0)) ∧ w'.cell? ⟨ad108.block, ad108.off + 1, none⟩ = some (.int .i64 (rd l0 1)) ∧ w'.cell? ⟨ad108.block, ad108.off + 2, none⟩ = some (.int .i64 (rd l0 2)) ∧ w'.cell? ⟨ad108.block, ad108.off + 3, none⟩ = some (.int .i64 (rd l0 3))) (ds := []) #[false, false, false, false, false, false, false, false, false, false, false, false, false, false] (by kernel_rfl) rfl rfl ⟨(kc_ HB.out hw108_0), (kc_ HB.out hw109_0), (kc_ HB.out hw110_0), (kc_ HB.out hw111_0)⟩ (fun hHeld => ?_); refine with_tabW super_Read.tab3 super_Read.bits3 (fun HT_ HW_ => ?_)
 generalize w9.drew = w10 at BK107 HB hx108_0 hx109_0 hx110_0 hx111_0 hHeld ⊢
 refine pure_ (i := 0) (N := some 11) (v := ?_) (a' := ?_) #[true, false, false, false, false, false, false, false, false, false, false, false, false, false] rfl rfl (any_of HT_.out (by kernel_rfl)) (fun _ _ _ h => h) (Or.inl ⟨by rfl, ?_⟩) ?_ ?_
 rotate_left
 · intro w'
   go_simp
   with_reducible rfl
 rotate_left
 · simp only [Act.put, List.setIfInBounds_toArray, List.set_cons_zero, List.set_cons_succ, i64_w, i32_w]
   rfl
 refine pure_ (i := 1) (N := some 12) (v := ?_) (a' := ?_) #[true, true, false, false, false, false, false, false, false, false, false, false, false, false] rfl rfl (any_of HT_.out (by kernel_rfl)) (fun _ _ _ h => h) (Or.inl ⟨by rfl, ?_⟩) ?_ ?_
 rotate_left
 · intro w'
   go_simp
   with_reducible rfl
 rotate_left
 · simp only [Act.put, List.setIfInBounds_toArray, List.set_cons_zero, List.set_cons_succ, i64_w, i32_w]
   rfl
 refine pure_ (i := 3) (N := some 14) (v := ?_) (a' := ?_) #[true, true, false, true, false, false, false, false, false, false, false, false, false, false] rfl rfl (any_of HT_.out (by kernel_rfl)) (fun _ _ _ h => h) (Or.inl ⟨by rfl, ?_⟩) ?_ ?_
 rotate_left
 · intro w'
   go_simp
   with_reducible rfl
 rotate_left
 · simp only [Act.put, List.setIfInBounds_toArray, List.set_cons_zero, List.set_cons_succ, i64_w, i32_w]
   rfl
 refine pure_ (i := 4) (N := some 15) (v := ?_) (a' := ?_) #[true, true, false, true, true, false, false, false, false, false, false, false, false, false] rfl rfl (any_of HT_.out (by kernel_rfl)) (fun _ _ _ h => h) (Or.inl ⟨by rfl, ?_⟩) ?_ ?_
 rotate_left
 · intro w'
   go_simp
   with_reducible rfl
 rotate_left
 · simp only [Act.put, List.setIfInBounds_toArray, List.set_cons_zero, List.set_cons_succ, i64_w, i32_w]
   rfl
 refine pure_ (i := 6) (N := some 17) (v := ?_) (a' := ?_) #[true, true, false, true, true, false, true, false, false, false, false, false, false, false] rfl rfl (any_of HT_.out (by kernel_rfl)) (fun _ _ _ h => h) (Or.inl ⟨by rfl, ?_⟩) ?_ ?_
 rotate_left
 · intro w'
   go_simp
   with_reducible rfl
 rotate_left
 · simp only [Act.put, List.setIfInBounds_toArray, List.set_cons_zero, List.set_cons_succ, i64_w, i32_w]
   rfl
 refine pure_ (i := 7) (N := some 18) (v := ?_) (a' := ?_) #[true, true, false, true, true, false, true, true, false, false, false, false, false, false] rfl rfl (any_of HT_.out (by kernel_rfl)) (fun _ _ _ h => h) (Or.inl ⟨by rfl, ?_⟩) ?_ ?_
 rotate_left
 · intro w'
   go_simp
   with_reducible rfl
 rotate_left
 · simp only [Act.put, List.setIfInBounds_toArray, List.set_cons_zero, List.set_cons_succ, i64_w, i32_w]
   rfl
 refine pure_ (i := 9) (N := some 20) (v := ?_) (a' := ?_) #[true, true, false, true, true, false, true, true, false, true, false, false, false, false] rfl rfl (any_of HT_.out (by kernel_rfl)) (fun _ _ _ h => h) (Or.inl ⟨by rfl, ?_⟩) ?_ ?_
 rotate_left
 · intro w'
   go_simp
   with_reducible rfl
 rotate_left
 · simp only [Act.put, List.setIfInBounds_toArray, List.set_cons_zero, List.set_cons_succ, i64_w, i32_w]
   rfl
 refine pure_ (i := 10) (N := some 21) (v := ?_) (a' := ?_) #[true, true, false, true, true, false, true, true, false, true, true, false, false, false] rfl rfl (any_of HT_.out (by kernel_rfl)) (fun _ _ _ h => h) (Or.inl ⟨by rfl, ?_⟩) ?_ ?_
 rotate_left
 · intro w'
   go_simp
   with_reducible rfl
 rotate_left
 · simp only [Act.put, List.setIfInBounds_toArray, List.set_cons_zero, List.set_cons_succ, i64_w, i32_w]
   rfl
 refine take_ (i := 2) (N := some 13) (v := ?_) (a' := ?_) #[true, true, true, true, true, false, true, true, false, true, true, false, false, false] rfl rfl (take_ofW HT_.out HW_.out (by kernel_rfl)) (fun _ _ _ h => h) (Or.inl ⟨by rfl, ?_⟩) hHeld ?_ ?_
 rotate_left
 · rintro w' ⟨s0, s1, s2, s3⟩
   go_simp
   with_reducible rfl
 rotate_left
 · simp only [Act.put, List.setIfInBounds_toArray, List.set_cons_zero, List.set_cons_succ, i64_w, i32_w]
   rfl
 refine take_ (i := 5) (N := some 16) (v := ?_) (a' := ?_) #[true, true, true, true, true, true, true, true, false, true, true, false, false, false] rfl rfl (take_ofW HT_.out HW_.out (by kernel_rfl)) (fun _ _ _ h => h) (Or.inl ⟨by rfl, ?_⟩) hHeld ?_ ?_
 rotate_left
 · rintro w' ⟨s0, s1, s2, s3⟩
   go_simp
   with_reducible rfl
 rotate_left
 · simp only [Act.put, List.setIfInBounds_toArray, List.set_cons_zero, List.set_cons_succ, i64_w, i32_w]
   rfl
 refine take_ (i := 8) (N := some 19) (v := ?_) (a' := ?_) #[true, true, true, true, true, true, true, true, true, true, true, false, false, false] rfl rfl (take_ofW HT_.out HW_.out (by kernel_rfl)) (fun _ _ _ h => h) (Or.inl ⟨by rfl, ?_⟩) hHeld ?_ ?_
 rotate_left
 · rintro w' ⟨s0, s1, s2, s3⟩
   go_simp
   with_reducible rfl
 rotate_left
 · simp only [Act.put, List.setIfInBounds_toArray, List.set_cons_zero, List.set_cons_succ, i64_w, i32_w]
   rfl
 refine take_ (i := 11) (N := some 22) (v := ?_) (a' := ?_) #[true, true, true, true, true, true, true, true, true, true, true, true, false, false] rfl rfl (take_ofW HT_.out HW_.out (by kernel_rfl)) (fun _ _ _ h => h) (Or.inl ⟨by rfl, ?_⟩) hHeld ?_ ?_
 rotate_left
 · rintro w' ⟨s0, s1, s2, s3⟩
   go_simp
   with_reducible rfl
 rotate_left
 · simp only [Act.put, List.setIfInBounds_toArray, List.set_cons_zero, List.set_cons_succ, i64_w, i32_w]
   rfl
 refine pure_ (i := 12) (N := some 23) (v := ?_) (a' := ?_) #[true, true, true, true, true, true, true, true, true, true, true, true, true, false] rfl rfl (any_of HT_.out (by kernel_rfl)) (fun _ _ _ h => h) (Or.inl ⟨by rfl, ?_⟩) ?_ ?_
 rotate_left
 · intro w'
   go_simp
   with_reducible rfl
 rotate_left
 · simp only [Act.put, List.setIfInBounds_toArray, List.set_cons_zero, List.set_cons_succ, i64_w, i32_w]
   rfl
 refine one_ (i := 13) (N := none) #[true, true, true, true, true, true, true, true, true, true, true, true, true, true] rfl rfl (one_of HT_.out (by kernel_rfl)) (by decide) (fun K hK => ?_)
 have hs11 : w10.cell? ⟨gb107, 0, none⟩ = some (.int .i64 0) := (blk_cell BK107.out 0).trans rfl
 have hfs11 := blk_frozen BK107.out 0
 have hs12 : w10.cell? ⟨gb107, 1, none⟩ = some (.int .i64 0) := (blk_cell BK107.out 1).trans rfl
 have hfs12 := blk_frozen BK107.out 1
 have hs13 : w10.cell? ⟨gb107, 2, none⟩ = some (.int .i64 0) := (blk_cell BK107.out 2).trans rfl
 have hfs13 := blk_frozen BK107.out 2
 have hs14 : w10.cell? ⟨gb107, 3, none⟩ = some (.int .i64 0) := (blk_cell BK107.out 3).trans rfl
 have hfs14 := blk_frozen BK107.out 3
 refine skip_ (w1 := ?_) (by rfl) rfl ?_ ?_
 rotate_left
 · go_simp
   rfl
 refine hK.out _ _ ⟨((cell_far (p := ⟨gb107, _, none⟩) (by first | exact Nat.ne_of_lt (Nat.lt_of_lt_of_le (kl_ hw108_0) GW107.out) | (rw [add_block]; exact Nat.ne_of_lt (Nat.lt_of_lt_of_le (kl_ hw108_0) GW107.out)) | (show (Addr.add _ _).block ≠ _; rw [add_block]; exact Nat.ne_of_lt (Nat.lt_of_lt_of_le (kl_ hw108_0) GW107.out)) | (dsimp only; exact Nat.ne_of_lt (Nat.lt_of_lt_of_le (kl_ hw108_0) GW107.out))) _).trans (((cell_far (p := ⟨gb107, _, none⟩) (by first | exact Nat.ne_of_lt (Nat.lt_of_lt_of_le (kl_ hw108_0) GW107.out) | (rw [add_block]; exact Nat.ne_of_lt (Nat.lt_of_lt_of_le (kl_ hw108_0) GW107.out)) | (show (Addr.add _ _).block ≠ _; rw [add_block]; exact Nat.ne_of_lt (Nat.lt_of_lt_of_le (kl_ hw108_0) GW107.out)) | (dsimp only; exact Nat.ne_of_lt (Nat.lt_of_lt_of_le (kl_ hw108_0) GW107.out))) _).trans (((cell_far (p := ⟨gb107, _, none⟩) (by first | exact Nat.ne_of_lt (Nat.lt_of_lt_of_le (kl_ hw108_0) GW107.out) | (rw [add_block]; exact Nat.ne_of_lt (Nat.lt_of_lt_of_le (kl_ hw108_0) GW107.out)) | (show (Addr.add _ _).block ≠ _; rw [add_block]; exact Nat.ne_of_lt (Nat.lt_of_lt_of_le (kl_ hw108_0) GW107.out)) | (dsimp only; exact Nat.ne_of_lt (Nat.lt_of_lt_of_le (kl_ hw108_0) GW107.out))) _).trans (((cell_far (p := ⟨gb107, _, none⟩) (by first | exact Nat.ne_of_lt (Nat.lt_of_lt_of_le (kl_ hw108_0) GW107.out) | (rw [add_block]; exact Nat.ne_of_lt (Nat.lt_of_lt_of_le (kl_ hw108_0) GW107.out)) | (show (Addr.add _ _).block ≠ _; rw [add_block]; exact Nat.ne_of_lt (Nat.lt_of_lt_of_le (kl_ hw108_0) GW107.out)) | (dsimp only; exact Nat.ne_of_lt (Nat.lt_of_lt_of_le (kl_ hw108_0) GW107.out))) _).trans (hHeld.1)))))))), ((cell_far (p := ⟨gb107, _, none⟩) (by first | exact Nat.ne_of_lt (Nat.lt_of_lt_of_le (kl_ hw109_0) GW107.out) | (rw [add_block]; exact Nat.ne_of_lt (Nat.lt_of_lt_of_le (kl_ hw109_0) GW107.out)) | (show (Addr.add _ _).block ≠ _; rw [add_block]; exact Nat.ne_of_lt (Nat.lt_of_lt_of_le (kl_ hw109_0) GW107.out)) | (dsimp only; exact Nat.ne_of_lt (Nat.lt_of_lt_of_le (kl_ hw109_0) GW107.out))) _).trans (((cell_far (p := ⟨gb107, _, none⟩) (by first | exact Nat.ne_of_lt (Nat.lt_of_lt_of_le (kl_ hw109_0) GW107.out) | (rw [add_block]; exact Nat.ne_of_lt (Nat.lt_of_lt_of_le (kl_ hw109_0) GW107.out)) | (show (Addr.add _ _).block ≠ _; rw [add_block]; exact Nat.ne_of_lt (Nat.lt_of_lt_of_le (kl_ hw109_0) GW107.out)) | (dsimp only; exact Nat.ne_of_lt (Nat.lt_of_lt_of_le (kl_ hw109_0) GW107.out))) _).trans (((cell_far (p := ⟨gb107, _, none⟩) (by first | exact Nat.ne_of_lt (Nat.lt_of_lt_of_le (kl_ hw109_0) GW107.out) | (rw [add_block]; exact Nat.ne_of_lt (Nat.lt_of_lt_of_le (kl_ hw109_0) GW107.out)) | (show (Addr.add _ _).block ≠ _; rw [add_block]; exact Nat.ne_of_lt (Nat.lt_of_lt_of_le (kl_ hw109_0) GW107.out)) | (dsimp only; exact Nat.ne_of_lt (Nat.lt_of_lt_of_le (kl_ hw109_0) GW107.out))) _).trans (((cell_far (p := ⟨gb107, _, none⟩) (by first | exact Nat.ne_of_lt (Nat.lt_of_lt_of_le (kl_ hw109_0) GW107.out) | (rw [add_block]; exact Nat.ne_of_lt (Nat.lt_of_lt_of_le (kl_ hw109_0) GW107.out)) | (show (Addr.add _ _).block ≠ _; rw [add_block]; exact Nat.ne_of_lt (Nat.lt_of_lt_of_le (kl_ hw109_0) GW107.out)) | (dsimp only; exact Nat.ne_of_lt (Nat.lt_of_lt_of_le (kl_ hw109_0) GW107.out))) _).trans (hHeld.2.1)))))))), ((cell_far (p := ⟨gb107, _, none⟩) (by first | exact Nat.ne_of_lt (Nat.lt_of_lt_of_le (kl_ hw110_0) GW107.out) | (rw [add_block]; exact Nat.ne_of_lt (Nat.lt_of_lt_of_le (kl_ hw110_0) GW107.out)) | (show (Addr.add _ _).block ≠ _; rw [add_block]; exact Nat.ne_of_lt (Nat.lt_of_lt_of_le (kl_ hw110_0) GW107.out)) | (dsimp only; exact Nat.ne_of_lt (Nat.lt_of_lt_of_le (kl_ hw110_0) GW107.out))) _).trans (((cell_far (p := ⟨gb107, _, none⟩) (by first | exact Nat.ne_of_lt (Nat.lt_of_lt_of_le (kl_ hw110_0) GW107.out) | (rw [add_block]; exact Nat.ne_of_lt (Nat.lt_of_lt_of_le (kl_ hw110_0) GW107.out)) | (show (Addr.add _ _).block ≠ _; rw [add_block]; exact Nat.ne_of_lt (Nat.lt_of_lt_of_le (kl_ hw110_0) GW107.out)) | (dsimp only; exact Nat.ne_of_lt (Nat.lt_of_lt_of_le (kl_ hw110_0) GW107.out))) _).trans (((cell_far (p := ⟨gb107, _, none⟩) (by first | exact Nat.ne_of_lt (Nat.lt_of_lt_of_le (kl_ hw110_0) GW107.out) | (rw [add_block]; exact Nat.ne_of_lt (Nat.lt_of_lt_of_le (kl_ hw110_0) GW107.out)) | (show (Addr.add _ _).block ≠ _; rw [add_block]; exact Nat.ne_of_lt (Nat.lt_of_lt_of_le (kl_ hw110_0) GW107.out)) | (dsimp only; exact Nat.ne_of_lt (Nat.lt_of_lt_of_le (kl_ hw110_0) GW107.out))) _).trans (((cell_far (p := ⟨gb107, _, none⟩) (by first | exact Nat.ne_of_lt (Nat.lt_of_lt_of_le (kl_ hw110_0) GW107.out) | (rw [add_block]; exact Nat.ne_of_lt (Nat.lt_of_lt_of_le (kl_ hw110_0) GW107.out)) | (show (Addr.add _ _).block ≠ _; rw [add_block]; exact Nat.ne_of_lt (Nat.lt_of_lt_of_le (kl_ hw110_0) GW107.out)) | (dsimp only; exact Nat.ne_of_lt (Nat.lt_of_lt_of_le (kl_ hw110_0) GW107.out))) _).trans (hHeld.2.2.1)))))))), ((cell_far (p := ⟨gb107, _, none⟩) (by first | exact Nat.ne_of_lt (Nat.lt_of_lt_of_le (kl_ hw111_0) GW107.out) | (rw [add_block]; exact Nat.ne_of_lt (Nat.lt_of_lt_of_le (kl_ hw111_0) GW107.out)) | (show (Addr.add _ _).block ≠ _; rw [add_block]; exact Nat.ne_of_lt (Nat.lt_of_lt_of_le (kl_ hw111_0) GW107.out)) | (dsimp only; exact Nat.ne_of_lt (Nat.lt_of_lt_of_le (kl_ hw111_0) GW107.out))) _).trans (((cell_far (p := ⟨gb107, _, none⟩) (by first | exact Nat.ne_of_lt (Nat.lt_of_lt_of_le (kl_ hw111_0) GW107.out) | (rw [add_block]; exact Nat.ne_of_lt (Nat.lt_of_lt_of_le (kl_ hw111_0) GW107.out)) | (show (Addr.add _ _).block ≠ _; rw [add_block]; exact Nat.ne_of_lt (Nat.lt_of_lt_of_le (kl_ hw111_0) GW107.out)) | (dsimp only; exact Nat.ne_of_lt (Nat.lt_of_lt_of_le (kl_ hw111_0) GW107.out))) _).trans (((cell_far (p := ⟨gb107, _, none⟩) (by first | exact Nat.ne_of_lt (Nat.lt_of_lt_of_le (kl_ hw111_0) GW107.out) | (rw [add_block]; exact Nat.ne_of_lt (Nat.lt_of_lt_of_le (kl_ hw111_0) GW107.out)) | (show (Addr.add _ _).block ≠ _; rw [add_block]; exact Nat.ne_of_lt (Nat.lt_of_lt_of_le (kl_ hw111_0) GW107.out)) | (dsimp only; exact Nat.ne_of_lt (Nat.lt_of_lt_of_le (kl_ hw111_0) GW107.out))) _).trans (((cell_far (p := ⟨gb107, _, none⟩) (by first | exact Nat.ne_of_lt (Nat.lt_of_lt_of_le (kl_ hw111_0) GW107.out) | (rw [add_block]; exact Nat.ne_of_lt (Nat.lt_of_lt_of_le (kl_ hw111_0) GW107.out)) | (show (Addr.add _ _).block ≠ _; rw [add_block]; exact Nat.ne_of_lt (Nat.lt_of_lt_of_le (kl_ hw111_0) GW107.out)) | (dsimp only; exact Nat.ne_of_lt (Nat.lt_of_lt_of_le (kl_ hw111_0) GW107.out))) _).trans (hHeld.2.2.2))))))))⟩ (fun hHeld => ?_)
 clear hK K
 refine done_ (done_of HT_.out (by kernel_rfl)) ?_
 go_upto_region 4 with (fail)
 go_cut [43] (fun v43 wc => ∃ (kq : Nat) (x43_7 : Bool), v43 = .bool x43_7 ∧ Aside0 (super_Read.j0 kq l0 x43_7 (rd l0 0) (rd l0 1) (rd l0 2) (rd l0 3) = some (r1, r2, r3)) ∧ Aside0 (kq ≤ k) ∧ Aside0 (wc.heap[gb107]? = some (.cells #[.int .i64 (rd l0 0), .int .i64 (rd l0 1), .int .i64 (rd l0 2), .int .i64 (rd l0 3)] 90 (0, 0))) ∧ Aside0 (Below w.heap.size w wc))
 case first =>
  have H := HC8.out
  clear HC8
  replace H := Option.bind_eq_some_iff.mp H
  obtain ⟨⟨t112, t113, t114, t115⟩, A150, H⟩ := H
  replace H : (if (!((rd l0 0) == t112) || (!((rd l0 1) == t113) || (!((rd l0 2) == t114) || (!((rd l0 3) == t115))))) = true then (super_Read.j0 k l0 true (rd l0 0) (rd l0 1) (rd l0 2) (rd l0 3)) else ((super_head_may.f (rd l0 0) (rd l0 1) (rd l0 2) (rd l0 3)).bind fun t116 => (if t116 = true then (super_Read.j0 k l0 ((rd l0 1) != (wrap64 ((l0.length : Int) / 16))) (rd l0 0) (rd l0 1) (rd l0 2) (rd l0 3)) else (super_Read.j0 k l0 true (rd l0 0) (rd l0 1) (rd l0 2) (rd l0 3))))) = some (r1, r2, r3) := H
  have A15 := Aside0.mk A150
  clear A150
  by_cases c16 : (!((rd l0 0) == t112) || (!((rd l0 1) == t113) || (!((rd l0 2) == t114) || (!((rd l0 3) == t115))))) = true
  · rw [if_pos c16] at H
    have c16b0 : (!((rd l0 0) == t112) || (!((rd l0 1) == t113) || (!((rd l0 2) == t114) || (!((rd l0 3) == t115))))) = true := c16
    clear c16
    (first | rw [c16b0] | (simp only [i64_w, i32_w]; rw [c16b0]) | skip)
    have H' := Aside0.mk H
    clear H
    try go_wp2
    have n0_ : Aside0 (((((w10.setCell ⟨gb107, 0, none⟩ (.int .i64 (rd l0 0))).setCell ⟨gb107, 1, none⟩ (.int .i64 (rd l0 1))).setCell ⟨gb107, 2, none⟩ (.int .i64 (rd l0 2))).setCell ⟨gb107, 3, none⟩ (.int .i64 (rd l0 3))).heap[gb107]? = some (.cells #[.int .i64 (rd l0 0), .int .i64 (rd l0 1), .int .i64 (rd l0 2), .int .i64 (rd l0 3)] 90 (0, 0))) := ⟨by (with_reducible repeat (first | refine blk_drewN ?_ _ | refine blk_drew ?_ | refine blk_alloc ?_ _)); refine blk_put (cs := #[.int .i64 (rd l0 0), .int .i64 (rd l0 1), .int .i64 (rd l0 2), .int .i64 0]) ?_ 3 _ rfl; (with_reducible repeat (first | refine blk_drewN ?_ _ | refine blk_drew ?_ | refine blk_alloc ?_ _)); refine blk_put (cs := #[.int .i64 (rd l0 0), .int .i64 (rd l0 1), .int .i64 0, .int .i64 0]) ?_ 2 _ rfl; (with_reducible repeat (first | refine blk_drewN ?_ _ | refine blk_drew ?_ | refine blk_alloc ?_ _)); refine blk_put (cs := #[.int .i64 (rd l0 0), .int .i64 0, .int .i64 0, .int .i64 0]) ?_ 1 _ rfl; (with_reducible repeat (first | refine blk_drewN ?_ _ | refine blk_drew ?_ | refine blk_alloc ?_ _)); refine blk_put (cs := #[.int .i64 0, .int .i64 0, .int .i64 0, .int .i64 0]) ?_ 0 _ rfl; (with_reducible repeat (first | refine blk_drewN ?_ _ | refine blk_drew ?_ | refine blk_alloc ?_ _)); exact BK107.out⟩
    have n1_ : Aside0 (Below w.heap.size w ((((w10.setCell ⟨gb107, 0, none⟩ (.int .i64 (rd l0 0))).setCell ⟨gb107, 1, none⟩ (.int .i64 (rd l0 1))).setCell ⟨gb107, 2, none⟩ (.int .i64 (rd l0 2))).setCell ⟨gb107, 3, none⟩ (.int .i64 (rd l0 3)))) := ⟨by repeat (first | (with_reducible first | exact HB.out | apply below_alloc | apply pw_below_drewN | apply below_drew1 | refine below_set ?_ GE107.out) | exact HB.out)⟩
    (try clear BK107)
    (try clear HB)
    generalize ((((w10.setCell ⟨gb107, 0, none⟩ (.int .i64 (rd l0 0))).setCell ⟨gb107, 1, none⟩ (.int .i64 (rd l0 1))).setCell ⟨gb107, 2, none⟩ (.int .i64 (rd l0 2))).setCell ⟨gb107, 3, none⟩ (.int .i64 (rd l0 3))) = w17 at n0_ n1_ ⊢
    have BK107 := n0_
    have HB := n1_
    clear n0_ n1_
    have n0_ := Aside0.mk (blk_drew BK107.out)
    have n1_ := Aside0.mk (below_drew1 HB.out)
    clear BK107
    clear HB
    have BK107 := n0_
    have HB := n1_
    clear n0_ n1_
    refine start_ (n := 20) (S := fun w' => w'.cell? ⟨gb107, 0, none⟩ = some (.int .i64 (rd l0 0)) ∧ w'.cell? ⟨gb107, 1, none⟩ = some (.int .i64 (rd l0 1)) ∧ w'.cell? ⟨gb107, 2, none⟩ = some (.int .i64 (rd l0 2)) ∧ w'.cell? ⟨gb107, 3, none⟩ = some (.int .i64 (rd l0 3))) (ds := []) #[false, false, false, false, false, false, false, false, false, false, false, false, false, false, false, false, false, false, false, false] (by kernel_rfl) rfl rfl ⟨(blk_cell BK107.out 0).trans rfl, (blk_cell BK107.out 1).trans rfl, (blk_cell BK107.out 2).trans rfl, (blk_cell BK107.out 3).trans rfl⟩ (fun hHeld => ?_); refine with_tabW super_Read.tab4 super_Read.bits4 (fun HT_ HW_ => ?_)
    generalize w17.drew = w18 at BK107 HB hHeld ⊢
    refine pure_ (i := 1) (N := some 25) (v := ?_) (a' := ?_) #[false, true, false, false, false, false, false, false, false, false, false, false, false, false, false, false, false, false, false, false] rfl rfl (any_of HT_.out (by kernel_rfl)) (fun _ _ _ h => h) (Or.inl ⟨by rfl, ?_⟩) ?_ ?_
    rotate_left
    · intro w'
      go_simp
      with_reducible rfl
    rotate_left
    · simp only [Act.put, List.setIfInBounds_toArray, List.set_cons_zero, List.set_cons_succ, i64_w, i32_w]
      rfl
    refine pure_ (i := 3) (N := some 27) (v := ?_) (a' := ?_) #[false, true, false, true, false, false, false, false, false, false, false, false, false, false, false, false, false, false, false, false] rfl rfl (any_of HT_.out (by kernel_rfl)) (fun _ _ _ h => h) (Or.inl ⟨by rfl, ?_⟩) ?_ ?_
    rotate_left
    · intro w'
      go_simp
      with_reducible rfl
    rotate_left
    · simp only [Act.put, List.setIfInBounds_toArray, List.set_cons_zero, List.set_cons_succ, i64_w, i32_w]
      rfl
    refine take_ (i := 0) (N := some 24) (v := ?_) (a' := ?_) #[true, true, false, true, false, false, false, false, false, false, false, false, false, false, false, false, false, false, false, false] rfl rfl (take_ofW HT_.out HW_.out (by kernel_rfl)) (fun _ _ _ h => h) (Or.inl ⟨by rfl, ?_⟩) hHeld ?_ ?_
    rotate_left
    · rintro w' ⟨s0, s1, s2, s3⟩
      go_simp
      with_reducible rfl
    rotate_left
    · simp only [Act.put, List.setIfInBounds_toArray, List.set_cons_zero, List.set_cons_succ, i64_w, i32_w]
      rfl
    refine take_ (i := 2) (N := some 26) (v := ?_) (a' := ?_) #[true, true, true, true, false, false, false, false, false, false, false, false, false, false, false, false, false, false, false, false] rfl rfl (take_ofW HT_.out HW_.out (by kernel_rfl)) (fun _ _ _ h => h) (Or.inl ⟨by rfl, ?_⟩) hHeld ?_ ?_
    rotate_left
    · rintro w' ⟨s0, s1, s2, s3⟩
      go_simp
      with_reducible rfl
    rotate_left
    · simp only [Act.put, List.setIfInBounds_toArray, List.set_cons_zero, List.set_cons_succ, i64_w, i32_w]
      rfl
    refine take_ (i := 4) (N := some 28) (v := ?_) (a' := ?_) #[true, true, true, true, true, false, false, false, false, false, false, false, false, false, false, false, false, false, false, false] rfl rfl (take_ofW HT_.out HW_.out (by kernel_rfl)) (fun _ _ _ h => h) (Or.inl ⟨by rfl, ?_⟩) hHeld ?_ ?_
    rotate_left
    · rintro w' ⟨s0, s1, s2, s3⟩
      go_simp
      with_reducible rfl
    rotate_left
    · simp only [Act.put, List.setIfInBounds_toArray, List.set_cons_zero, List.set_cons_succ, i64_w, i32_w]
      rfl
    refine one_ (i := 5) (N := some 29) #[true, true, true, true, true, true, false, false, false, false, false, false, false, false, false, false, false, false, false, false] rfl rfl (one_of HT_.out (by kernel_rfl)) (by decide) (fun K hK => ?_)
    refine goes_ Try.func67 (by kernel_rfl) rfl #[.int .i64 (rd l0 1), .int .i64 (rd l0 3)] (by rfl) rfl rfl qm_ ?_
    with_reducible refine (super_of.calls (rd l0 1) (rd l0 3) t112 t113 t114 t115 _ A15.out).mono ?_
    rintro e w19 ⟨rfl, hb⟩
    refine ⟨_, rfl, ?_⟩
    have n0_ := Aside0.mk (blk_below (g := gb107) (o := .cells #[.int .i64 (rd l0 0), .int .i64 (rd l0 1), .int .i64 (rd l0 2), .int .i64 (rd l0 3)] 90 (0, 0)) (qb_ BK107.out) hb)
    have n1_ := Aside0.mk (below_step (qg1_ GE107.out) hb)
    clear BK107
    clear HB
    have BK107 := n0_
    have HB := n1_
    clear n0_ n1_
    (try clear hb)
    (try clear hb2)
    (try clear hk)
    (try clear hi)
    refine hK.out _ _ ⟨(blk_cell BK107.out 0).trans rfl, (blk_cell BK107.out 1).trans rfl, (blk_cell BK107.out 2).trans rfl, (blk_cell BK107.out 3).trans rfl⟩ (fun hHeld => ?_)
    clear hK K
    refine norm_ (a' := ?_) ?_ ?_
    rotate_left
    · show Act.put _ (some 29) _ = _
      simp only [Act.put, List.setIfInBounds_toArray, List.set_cons_zero, List.set_cons_succ, i64_w, i32_w]
      rfl
    refine pure_ (i := 6) (N := some 30) (v := ?_) (a' := ?_) #[true, true, true, true, true, true, true, false, false, false, false, false, false, false, false, false, false, false, false, false] rfl rfl (any_of HT_.out (by kernel_rfl)) (fun _ _ _ h => h) (Or.inl ⟨by rfl, ?_⟩) ?_ ?_
    rotate_left
    · intro w'
      go_simp
      with_reducible rfl
    rotate_left
    · simp only [Act.put, List.setIfInBounds_toArray, List.set_cons_zero, List.set_cons_succ, i64_w, i32_w]
      rfl
    refine pure_ (i := 7) (N := some 31) (v := ?_) (a' := ?_) #[true, true, true, true, true, true, true, true, false, false, false, false, false, false, false, false, false, false, false, false] rfl rfl (any_of HT_.out (by kernel_rfl)) (fun _ _ _ h => h) (Or.inl ⟨by rfl, ?_⟩) ?_ ?_
    rotate_left
    · intro w'
      go_simp
      with_reducible rfl
    rotate_left
    · simp only [Act.put, List.setIfInBounds_toArray, List.set_cons_zero, List.set_cons_succ, i64_w, i32_w]
      rfl
    refine pure_ (i := 8) (N := some 32) (v := undef) (a' := ?_) #[true, true, true, true, true, true, true, true, true, false, false, false, false, false, false, false, false, false, false, false] rfl rfl (any_of HT_.out (by kernel_rfl)) (fun _ _ _ h => h) (Or.inr ⟨by rfl, rfl⟩) ?_ ?_
    rotate_left
    · simp only [Act.put, List.setIfInBounds_toArray, List.set_cons_zero, List.set_cons_succ, i64_w, i32_w]
      rfl
    refine pure_ (i := 9) (N := some 33) (v := undef) (a' := ?_) #[true, true, true, true, true, true, true, true, true, true, false, false, false, false, false, false, false, false, false, false] rfl rfl (any_of HT_.out (by kernel_rfl)) (fun _ _ _ h => h) (Or.inr ⟨by rfl, rfl⟩) ?_ ?_
    rotate_left
    · simp only [Act.put, List.setIfInBounds_toArray, List.set_cons_zero, List.set_cons_succ, i64_w, i32_w]
      rfl
    refine pure_ (i := 10) (N := some 34) (v := undef) (a' := ?_) #[true, true, true, true, true, true, true, true, true, true, true, false, false, false, false, false, false, false, false, false] rfl rfl (any_of HT_.out (by kernel_rfl)) (fun _ _ _ h => h) (Or.inr ⟨by rfl, rfl⟩) ?_ ?_
    rotate_left
    · simp only [Act.put, List.setIfInBounds_toArray, List.set_cons_zero, List.set_cons_succ, i64_w, i32_w]
      rfl
    refine pure_ (i := 11) (N := some 35) (v := ?_) (a' := ?_) #[true, true, true, true, true, true, true, true, true, true, true, true, false, false, false, false, false, false, false, false] rfl rfl (any_of HT_.out (by kernel_rfl)) (fun _ _ _ h => h) (Or.inl ⟨by rfl, ?_⟩) ?_ ?_
    rotate_left
    · intro w'
      go_simp
      with_reducible rfl
    rotate_left
    · simp only [Act.put, List.setIfInBounds_toArray, List.set_cons_zero, List.set_cons_succ, i64_w, i32_w]
      rfl
    refine pure_ (i := 12) (N := some 36) (v := ?_) (a' := ?_) #[true, true, true, true, true, true, true, true, true, true, true, true, true, false, false, false, false, false, false, false] rfl rfl (any_of HT_.out (by kernel_rfl)) (fun _ _ _ h => h) (Or.inl ⟨by rfl, ?_⟩) ?_ ?_
    rotate_left
    · intro w'
      go_simp
      with_reducible rfl
    rotate_left
    · simp only [Act.put, List.setIfInBounds_toArray, List.set_cons_zero, List.set_cons_succ, i64_w, i32_w]
      rfl
    refine pure_ (i := 13) (N := some 37) (v := undef) (a' := ?_) #[true, true, true, true, true, true, true, true, true, true, true, true, true, true, false, false, false, false, false, false] rfl rfl (any_of HT_.out (by kernel_rfl)) (fun _ _ _ h => h) (Or.inr ⟨by rfl, rfl⟩) ?_ ?_
    rotate_left
    · simp only [Act.put, List.setIfInBounds_toArray, List.set_cons_zero, List.set_cons_succ, i64_w, i32_w]
      rfl
    refine pure_ (i := 14) (N := some 38) (v := undef) (a' := ?_) #[true, true, true, true, true, true, true, true, true, true, true, true, true, true, true, false, false, false, false, false] rfl rfl (any_of HT_.out (by kernel_rfl)) (fun _ _ _ h => h) (Or.inr ⟨by rfl, rfl⟩) ?_ ?_
    rotate_left
    · simp only [Act.put, List.setIfInBounds_toArray, List.set_cons_zero, List.set_cons_succ, i64_w, i32_w]
      rfl
    refine pure_ (i := 15) (N := some 39) (v := undef) (a' := ?_) #[true, true, true, true, true, true, true, true, true, true, true, true, true, true, true, true, false, false, false, false] rfl rfl (any_of HT_.out (by kernel_rfl)) (fun _ _ _ h => h) (Or.inr ⟨by rfl, rfl⟩) ?_ ?_
    rotate_left
    · simp only [Act.put, List.setIfInBounds_toArray, List.set_cons_zero, List.set_cons_succ, i64_w, i32_w]
      rfl
    refine pure_ (i := 16) (N := some 40) (v := undef) (a' := ?_) #[true, true, true, true, true, true, true, true, true, true, true, true, true, true, true, true, true, false, false, false] rfl rfl (any_of HT_.out (by kernel_rfl)) (fun _ _ _ h => h) (Or.inr ⟨by rfl, rfl⟩) ?_ ?_
    rotate_left
    · simp only [Act.put, List.setIfInBounds_toArray, List.set_cons_zero, List.set_cons_succ, i64_w, i32_w]
      rfl
    refine pure_ (i := 17) (N := some 41) (v := undef) (a' := ?_) #[true, true, true, true, true, true, true, true, true, true, true, true, true, true, true, true, true, true, false, false] rfl rfl (any_of HT_.out (by kernel_rfl)) (fun _ _ _ h => h) (Or.inr ⟨by rfl, rfl⟩) ?_ ?_
    rotate_left
    · simp only [Act.put, List.setIfInBounds_toArray, List.set_cons_zero, List.set_cons_succ, i64_w, i32_w]
      rfl
    refine pure_ (i := 18) (N := some 42) (v := undef) (a' := ?_) #[true, true, true, true, true, true, true, true, true, true, true, true, true, true, true, true, true, true, true, false] rfl rfl (any_of HT_.out (by kernel_rfl)) (fun _ _ _ h => h) (Or.inr ⟨by rfl, rfl⟩) ?_ ?_
    rotate_left
    · simp only [Act.put, List.setIfInBounds_toArray, List.set_cons_zero, List.set_cons_succ, i64_w, i32_w]
      rfl
    refine pure_ (i := 19) (N := some 43) (v := ?_) (a' := ?_) #[true, true, true, true, true, true, true, true, true, true, true, true, true, true, true, true, true, true, true, true] rfl rfl (any_of HT_.out (by kernel_rfl)) (fun _ _ _ h => h) (Or.inl ⟨by rfl, ?_⟩) ?_ ?_
    rotate_left
    · intro w'
      go_simp
      with_reducible rfl
    rotate_left
    · simp only [Act.put, List.setIfInBounds_toArray, List.set_cons_zero, List.set_cons_succ, i64_w, i32_w]
      rfl
    refine done_ (done_of HT_.out (by kernel_rfl)) ?_
    try go_wp2
    go_meet
    case rel => exact ⟨_, (true), (by first | rfl | (simp; done) | (simp [*]; done)), H', ⟨by first | omega | exact Nat.le_refl _⟩, ⟨by (with_reducible repeat (first | refine blk_drewN ?_ _ | refine blk_drew ?_ | refine blk_alloc ?_ _)); exact BK107.out⟩, ⟨by repeat (first | (with_reducible first | exact HB.out | apply below_alloc | apply pw_below_drewN | apply below_drew1 | refine below_set ?_ GE107.out) | exact HB.out)⟩⟩
  rw [if_neg c16] at H
  have c16b0 : (!((rd l0 0) == t112) || (!((rd l0 1) == t113) || (!((rd l0 2) == t114) || (!((rd l0 3) == t115))))) = false := by simpa using c16
  clear c16
  (first | rw [c16b0] | (simp only [i64_w, i32_w]; rw [c16b0]) | skip)
  replace H := Option.bind_eq_some_iff.mp H
  obtain ⟨t116, A200, H⟩ := H
  replace H : (if t116 = true then (super_Read.j0 k l0 ((rd l0 1) != (wrap64 ((l0.length : Int) / 16))) (rd l0 0) (rd l0 1) (rd l0 2) (rd l0 3)) else (super_Read.j0 k l0 true (rd l0 0) (rd l0 1) (rd l0 2) (rd l0 3))) = some (r1, r2, r3) := H
  have A20 := Aside0.mk A200
  clear A200
  by_cases c21 : t116 = true
  rotate_left
  · replace c21 := Bool.eq_false_iff.mpr c21
    subst c21
    have H1 : (super_Read.j0 k l0 true (rd l0 0) (rd l0 1) (rd l0 2) (rd l0 3)) = some (r1, r2, r3) := by rw [if_neg (show ¬ (false = true) by decide)] at H; exact H
    clear H
    have H := H1
    clear H1
    have H' := Aside0.mk H
    clear H
    try go_wp2
    have n0_ : Aside0 (((((w10.setCell ⟨gb107, 0, none⟩ (.int .i64 (rd l0 0))).setCell ⟨gb107, 1, none⟩ (.int .i64 (rd l0 1))).setCell ⟨gb107, 2, none⟩ (.int .i64 (rd l0 2))).setCell ⟨gb107, 3, none⟩ (.int .i64 (rd l0 3))).heap[gb107]? = some (.cells #[.int .i64 (rd l0 0), .int .i64 (rd l0 1), .int .i64 (rd l0 2), .int .i64 (rd l0 3)] 90 (0, 0))) := ⟨by (with_reducible repeat (first | refine blk_drewN ?_ _ | refine blk_drew ?_ | refine blk_alloc ?_ _)); refine blk_put (cs := #[.int .i64 (rd l0 0), .int .i64 (rd l0 1), .int .i64 (rd l0 2), .int .i64 0]) ?_ 3 _ rfl; (with_reducible repeat (first | refine blk_drewN ?_ _ | refine blk_drew ?_ | refine blk_alloc ?_ _)); refine blk_put (cs := #[.int .i64 (rd l0 0), .int .i64 (rd l0 1), .int .i64 0, .int .i64 0]) ?_ 2 _ rfl; (with_reducible repeat (first | refine blk_drewN ?_ _ | refine blk_drew ?_ | refine blk_alloc ?_ _)); refine blk_put (cs := #[.int .i64 (rd l0 0), .int .i64 0, .int .i64 0, .int .i64 0]) ?_ 1 _ rfl; (with_reducible repeat (first | refine blk_drewN ?_ _ | refine blk_drew ?_ | refine blk_alloc ?_ _)); refine blk_put (cs := #[.int .i64 0, .int .i64 0, .int .i64 0, .int .i64 0]) ?_ 0 _ rfl; (with_reducible repeat (first | refine blk_drewN ?_ _ | refine blk_drew ?_ | refine blk_alloc ?_ _)); exact BK107.out⟩
    have n1_ : Aside0 (Below w.heap.size w ((((w10.setCell ⟨gb107, 0, none⟩ (.int .i64 (rd l0 0))).setCell ⟨gb107, 1, none⟩ (.int .i64 (rd l0 1))).setCell ⟨gb107, 2, none⟩ (.int .i64 (rd l0 2))).setCell ⟨gb107, 3, none⟩ (.int .i64 (rd l0 3)))) := ⟨by repeat (first | (with_reducible first | exact HB.out | apply below_alloc | apply pw_below_drewN | apply below_drew1 | refine below_set ?_ GE107.out) | exact HB.out)⟩
    (try clear BK107)
    (try clear HB)
    generalize ((((w10.setCell ⟨gb107, 0, none⟩ (.int .i64 (rd l0 0))).setCell ⟨gb107, 1, none⟩ (.int .i64 (rd l0 1))).setCell ⟨gb107, 2, none⟩ (.int .i64 (rd l0 2))).setCell ⟨gb107, 3, none⟩ (.int .i64 (rd l0 3))) = w26 at n0_ n1_ ⊢
    have BK107 := n0_
    have HB := n1_
    clear n0_ n1_
    have n0_ := Aside0.mk (blk_drew BK107.out)
    have n1_ := Aside0.mk (below_drew1 HB.out)
    clear BK107
    clear HB
    have BK107 := n0_
    have HB := n1_
    clear n0_ n1_
    refine start_ (n := 20) (S := fun w' => w'.cell? ⟨gb107, 0, none⟩ = some (.int .i64 (rd l0 0)) ∧ w'.cell? ⟨gb107, 1, none⟩ = some (.int .i64 (rd l0 1)) ∧ w'.cell? ⟨gb107, 2, none⟩ = some (.int .i64 (rd l0 2)) ∧ w'.cell? ⟨gb107, 3, none⟩ = some (.int .i64 (rd l0 3))) (ds := []) #[false, false, false, false, false, false, false, false, false, false, false, false, false, false, false, false, false, false, false, false] (by kernel_rfl) rfl rfl ⟨(blk_cell BK107.out 0).trans rfl, (blk_cell BK107.out 1).trans rfl, (blk_cell BK107.out 2).trans rfl, (blk_cell BK107.out 3).trans rfl⟩ (fun hHeld => ?_); refine with_tabW super_Read.tab4 super_Read.bits4 (fun HT_ HW_ => ?_)
    generalize w26.drew = w27 at BK107 HB hHeld ⊢
    refine pure_ (i := 1) (N := some 25) (v := ?_) (a' := ?_) #[false, true, false, false, false, false, false, false, false, false, false, false, false, false, false, false, false, false, false, false] rfl rfl (any_of HT_.out (by kernel_rfl)) (fun _ _ _ h => h) (Or.inl ⟨by rfl, ?_⟩) ?_ ?_
    rotate_left
    · intro w'
      go_simp
      with_reducible rfl
    rotate_left
    · simp only [Act.put, List.setIfInBounds_toArray, List.set_cons_zero, List.set_cons_succ, i64_w, i32_w]
      rfl
    refine pure_ (i := 3) (N := some 27) (v := ?_) (a' := ?_) #[false, true, false, true, false, false, false, false, false, false, false, false, false, false, false, false, false, false, false, false] rfl rfl (any_of HT_.out (by kernel_rfl)) (fun _ _ _ h => h) (Or.inl ⟨by rfl, ?_⟩) ?_ ?_
    rotate_left
    · intro w'
      go_simp
      with_reducible rfl
    rotate_left
    · simp only [Act.put, List.setIfInBounds_toArray, List.set_cons_zero, List.set_cons_succ, i64_w, i32_w]
      rfl
    refine take_ (i := 0) (N := some 24) (v := ?_) (a' := ?_) #[true, true, false, true, false, false, false, false, false, false, false, false, false, false, false, false, false, false, false, false] rfl rfl (take_ofW HT_.out HW_.out (by kernel_rfl)) (fun _ _ _ h => h) (Or.inl ⟨by rfl, ?_⟩) hHeld ?_ ?_
    rotate_left
    · rintro w' ⟨s0, s1, s2, s3⟩
      go_simp
      with_reducible rfl
    rotate_left
    · simp only [Act.put, List.setIfInBounds_toArray, List.set_cons_zero, List.set_cons_succ, i64_w, i32_w]
      rfl
    refine take_ (i := 2) (N := some 26) (v := ?_) (a' := ?_) #[true, true, true, true, false, false, false, false, false, false, false, false, false, false, false, false, false, false, false, false] rfl rfl (take_ofW HT_.out HW_.out (by kernel_rfl)) (fun _ _ _ h => h) (Or.inl ⟨by rfl, ?_⟩) hHeld ?_ ?_
    rotate_left
    · rintro w' ⟨s0, s1, s2, s3⟩
      go_simp
      with_reducible rfl
    rotate_left
    · simp only [Act.put, List.setIfInBounds_toArray, List.set_cons_zero, List.set_cons_succ, i64_w, i32_w]
      rfl
    refine take_ (i := 4) (N := some 28) (v := ?_) (a' := ?_) #[true, true, true, true, true, false, false, false, false, false, false, false, false, false, false, false, false, false, false, false] rfl rfl (take_ofW HT_.out HW_.out (by kernel_rfl)) (fun _ _ _ h => h) (Or.inl ⟨by rfl, ?_⟩) hHeld ?_ ?_
    rotate_left
    · rintro w' ⟨s0, s1, s2, s3⟩
      go_simp
      with_reducible rfl
    rotate_left
    · simp only [Act.put, List.setIfInBounds_toArray, List.set_cons_zero, List.set_cons_succ, i64_w, i32_w]
      rfl
    refine one_ (i := 5) (N := some 29) #[true, true, true, true, true, true, false, false, false, false, false, false, false, false, false, false, false, false, false, false] rfl rfl (one_of HT_.out (by kernel_rfl)) (by decide) (fun K hK => ?_)
    refine goes_ Try.func67 (by kernel_rfl) rfl #[.int .i64 (rd l0 1), .int .i64 (rd l0 3)] (by rfl) rfl rfl qm_ ?_
    with_reducible refine (super_of.calls (rd l0 1) (rd l0 3) t112 t113 t114 t115 _ A15.out).mono ?_
    rintro e w28 ⟨rfl, hb⟩
    refine ⟨_, rfl, ?_⟩
    have n0_ := Aside0.mk (blk_below (g := gb107) (o := .cells #[.int .i64 (rd l0 0), .int .i64 (rd l0 1), .int .i64 (rd l0 2), .int .i64 (rd l0 3)] 90 (0, 0)) (qb_ BK107.out) hb)
    have n1_ := Aside0.mk (below_step (qg1_ GE107.out) hb)
    clear BK107
    clear HB
    have BK107 := n0_
    have HB := n1_
    clear n0_ n1_
    (try clear hb)
    (try clear hb2)
    (try clear hk)
    (try clear hi)
    refine hK.out _ _ ⟨(blk_cell BK107.out 0).trans rfl, (blk_cell BK107.out 1).trans rfl, (blk_cell BK107.out 2).trans rfl, (blk_cell BK107.out 3).trans rfl⟩ (fun hHeld => ?_)
    clear hK K
    refine norm_ (a' := ?_) ?_ ?_
    rotate_left
    · show Act.put _ (some 29) _ = _
      simp only [Act.put, List.setIfInBounds_toArray, List.set_cons_zero, List.set_cons_succ, i64_w, i32_w]
      rfl
    refine pure_ (i := 6) (N := some 30) (v := ?_) (a' := ?_) #[true, true, true, true, true, true, true, false, false, false, false, false, false, false, false, false, false, false, false, false] rfl rfl (any_of HT_.out (by kernel_rfl)) (fun _ _ _ h => h) (Or.inl ⟨by rfl, ?_⟩) ?_ ?_
    rotate_left
    · intro w'
      go_simp
      with_reducible rfl
    rotate_left
    · simp only [Act.put, List.setIfInBounds_toArray, List.set_cons_zero, List.set_cons_succ, i64_w, i32_w]
      rfl
    refine pure_ (i := 7) (N := some 31) (v := ?_) (a' := ?_) #[true, true, true, true, true, true, true, true, false, false, false, false, false, false, false, false, false, false, false, false] rfl rfl (any_of HT_.out (by kernel_rfl)) (fun _ _ _ h => h) (Or.inl ⟨by rfl, ?_⟩) ?_ ?_
    rotate_left
    · intro w'
      go_simp
      with_reducible rfl
    rotate_left
    · simp only [Act.put, List.setIfInBounds_toArray, List.set_cons_zero, List.set_cons_succ, i64_w, i32_w]
      rfl
    refine take_ (i := 8) (N := some 32) (v := ?_) (a' := ?_) #[true, true, true, true, true, true, true, true, true, false, false, false, false, false, false, false, false, false, false, false] rfl rfl (take_ofW HT_.out HW_.out (by kernel_rfl)) (fun _ _ _ h => h) (Or.inl ⟨by rfl, ?_⟩) hHeld ?_ ?_
    rotate_left
    · rintro w' ⟨s0, s1, s2, s3⟩
      go_simp
      with_reducible rfl
    rotate_left
    · simp only [Act.put, List.setIfInBounds_toArray, List.set_cons_zero, List.set_cons_succ, i64_w, i32_w]
      rfl
    refine one_ (i := 9) (N := some 33) #[true, true, true, true, true, true, true, true, true, true, false, false, false, false, false, false, false, false, false, false] rfl rfl (one_of HT_.out (by kernel_rfl)) (by decide) (fun K hK => ?_)
    refine goes_ Try.func68 (by kernel_rfl) rfl #[.agg #[.int .i64 (rd l0 0), .int .i64 (rd l0 1), .int .i64 (rd l0 2), .int .i64 (rd l0 3)]] (by rfl) rfl rfl qm_ ?_
    with_reducible refine (super_head_may.calls (rd l0 0) (rd l0 1) (rd l0 2) (rd l0 3) false _ A20.out).mono ?_
    rintro e w29 ⟨rfl, hb⟩
    refine ⟨_, rfl, ?_⟩
    have n0_ := Aside0.mk (blk_below (g := gb107) (o := .cells #[.int .i64 (rd l0 0), .int .i64 (rd l0 1), .int .i64 (rd l0 2), .int .i64 (rd l0 3)] 90 (0, 0)) (qb_ BK107.out) hb)
    have n1_ := Aside0.mk (below_step (qg1_ GE107.out) hb)
    clear BK107
    clear HB
    have BK107 := n0_
    have HB := n1_
    clear n0_ n1_
    (try clear hb)
    (try clear hb2)
    (try clear hk)
    (try clear hi)
    refine hK.out _ _ ⟨(blk_cell BK107.out 0).trans rfl, (blk_cell BK107.out 1).trans rfl, (blk_cell BK107.out 2).trans rfl, (blk_cell BK107.out 3).trans rfl⟩ (fun hHeld => ?_)
    clear hK K
    refine norm_ (a' := ?_) ?_ ?_
    rotate_left
    · show Act.put _ (some 33) _ = _
      simp only [Act.put, List.setIfInBounds_toArray, List.set_cons_zero, List.set_cons_succ, i64_w, i32_w]
      rfl
    refine pure_ (i := 10) (N := some 34) (v := ?_) (a' := ?_) #[true, true, true, true, true, true, true, true, true, true, true, false, false, false, false, false, false, false, false, false] rfl rfl (any_of HT_.out (by kernel_rfl)) (fun _ _ _ h => h) (Or.inl ⟨by rfl, ?_⟩) ?_ ?_
    rotate_left
    · intro w'
      go_simp
      with_reducible rfl
    rotate_left
    · simp only [Act.put, List.setIfInBounds_toArray, List.set_cons_zero, List.set_cons_succ, i64_w, i32_w]
      rfl
    refine pure_ (i := 11) (N := some 35) (v := ?_) (a' := ?_) #[true, true, true, true, true, true, true, true, true, true, true, true, false, false, false, false, false, false, false, false] rfl rfl (any_of HT_.out (by kernel_rfl)) (fun _ _ _ h => h) (Or.inl ⟨by rfl, ?_⟩) ?_ ?_
    rotate_left
    · intro w'
      go_simp
      with_reducible rfl
    rotate_left
    · simp only [Act.put, List.setIfInBounds_toArray, List.set_cons_zero, List.set_cons_succ, i64_w, i32_w]
      rfl
    refine pure_ (i := 12) (N := some 36) (v := ?_) (a' := ?_) #[true, true, true, true, true, true, true, true, true, true, true, true, true, false, false, false, false, false, false, false] rfl rfl (any_of HT_.out (by kernel_rfl)) (fun _ _ _ h => h) (Or.inl ⟨by rfl, ?_⟩) ?_ ?_
    rotate_left
    · intro w'
      go_simp
      with_reducible rfl
    rotate_left
    · simp only [Act.put, List.setIfInBounds_toArray, List.set_cons_zero, List.set_cons_succ, i64_w, i32_w]
      rfl
    refine pure_ (i := 13) (N := some 37) (v := undef) (a' := ?_) #[true, true, true, true, true, true, true, true, true, true, true, true, true, true, false, false, false, false, false, false] rfl rfl (any_of HT_.out (by kernel_rfl)) (fun _ _ _ h => h) (Or.inr ⟨by rfl, rfl⟩) ?_ ?_
    rotate_left
    · simp only [Act.put, List.setIfInBounds_toArray, List.set_cons_zero, List.set_cons_succ, i64_w, i32_w]
      rfl
    refine pure_ (i := 14) (N := some 38) (v := undef) (a' := ?_) #[true, true, true, true, true, true, true, true, true, true, true, true, true, true, true, false, false, false, false, false] rfl rfl (any_of HT_.out (by kernel_rfl)) (fun _ _ _ h => h) (Or.inr ⟨by rfl, rfl⟩) ?_ ?_
    rotate_left
    · simp only [Act.put, List.setIfInBounds_toArray, List.set_cons_zero, List.set_cons_succ, i64_w, i32_w]
      rfl
    refine pure_ (i := 15) (N := some 39) (v := undef) (a' := ?_) #[true, true, true, true, true, true, true, true, true, true, true, true, true, true, true, true, false, false, false, false] rfl rfl (any_of HT_.out (by kernel_rfl)) (fun _ _ _ h => h) (Or.inr ⟨by rfl, rfl⟩) ?_ ?_
    rotate_left
    · simp only [Act.put, List.setIfInBounds_toArray, List.set_cons_zero, List.set_cons_succ, i64_w, i32_w]
      rfl
    refine pure_ (i := 16) (N := some 40) (v := undef) (a' := ?_) #[true, true, true, true, true, true, true, true, true, true, true, true, true, true, true, true, true, false, false, false] rfl rfl (any_of HT_.out (by kernel_rfl)) (fun _ _ _ h => h) (Or.inr ⟨by rfl, rfl⟩) ?_ ?_
    rotate_left
    · simp only [Act.put, List.setIfInBounds_toArray, List.set_cons_zero, List.set_cons_succ, i64_w, i32_w]
      rfl
    refine pure_ (i := 17) (N := some 41) (v := undef) (a' := ?_) #[true, true, true, true, true, true, true, true, true, true, true, true, true, true, true, true, true, true, false, false] rfl rfl (any_of HT_.out (by kernel_rfl)) (fun _ _ _ h => h) (Or.inr ⟨by rfl, rfl⟩) ?_ ?_
    rotate_left
    · simp only [Act.put, List.setIfInBounds_toArray, List.set_cons_zero, List.set_cons_succ, i64_w, i32_w]
      rfl
    refine pure_ (i := 18) (N := some 42) (v := undef) (a' := ?_) #[true, true, true, true, true, true, true, true, true, true, true, true, true, true, true, true, true, true, true, false] rfl rfl (any_of HT_.out (by kernel_rfl)) (fun _ _ _ h => h) (Or.inr ⟨by rfl, rfl⟩) ?_ ?_
    rotate_left
    · simp only [Act.put, List.setIfInBounds_toArray, List.set_cons_zero, List.set_cons_succ, i64_w, i32_w]
      rfl
    refine pure_ (i := 19) (N := some 43) (v := ?_) (a' := ?_) #[true, true, true, true, true, true, true, true, true, true, true, true, true, true, true, true, true, true, true, true] rfl rfl (any_of HT_.out (by kernel_rfl)) (fun _ _ _ h => h) (Or.inl ⟨by rfl, ?_⟩) ?_ ?_
    rotate_left
    · intro w'
      go_simp
      with_reducible rfl
    rotate_left
    · simp only [Act.put, List.setIfInBounds_toArray, List.set_cons_zero, List.set_cons_succ, i64_w, i32_w]
      rfl
    refine done_ (done_of HT_.out (by kernel_rfl)) ?_
    try go_wp2
    go_meet
    case rel => exact ⟨_, (true), (by first | rfl | (simp; done) | (simp [*]; done)), H', ⟨by first | omega | exact Nat.le_refl _⟩, ⟨by (with_reducible repeat (first | refine blk_drewN ?_ _ | refine blk_drew ?_ | refine blk_alloc ?_ _)); exact BK107.out⟩, ⟨by repeat (first | (with_reducible first | exact HB.out | apply below_alloc | apply pw_below_drewN | apply below_drew1 | refine below_set ?_ GE107.out) | exact HB.out)⟩⟩
  subst c21
  have H1 : (super_Read.j0 k l0 ((rd l0 1) != (wrap64 ((l0.length : Int) / 16))) (rd l0 0) (rd l0 1) (rd l0 2) (rd l0 3)) = some (r1, r2, r3) := by rw [if_pos rfl] at H; exact H
  clear H
  have H := H1
  clear H1
  have H' := Aside0.mk H
  clear H
  try go_wp2
  have n0_ : Aside0 (((((w10.setCell ⟨gb107, 0, none⟩ (.int .i64 (rd l0 0))).setCell ⟨gb107, 1, none⟩ (.int .i64 (rd l0 1))).setCell ⟨gb107, 2, none⟩ (.int .i64 (rd l0 2))).setCell ⟨gb107, 3, none⟩ (.int .i64 (rd l0 3))).heap[gb107]? = some (.cells #[.int .i64 (rd l0 0), .int .i64 (rd l0 1), .int .i64 (rd l0 2), .int .i64 (rd l0 3)] 90 (0, 0))) := ⟨by (with_reducible repeat (first | refine blk_drewN ?_ _ | refine blk_drew ?_ | refine blk_alloc ?_ _)); refine blk_put (cs := #[.int .i64 (rd l0 0), .int .i64 (rd l0 1), .int .i64 (rd l0 2), .int .i64 0]) ?_ 3 _ rfl; (with_reducible repeat (first | refine blk_drewN ?_ _ | refine blk_drew ?_ | refine blk_alloc ?_ _)); refine blk_put (cs := #[.int .i64 (rd l0 0), .int .i64 (rd l0 1), .int .i64 0, .int .i64 0]) ?_ 2 _ rfl; (with_reducible repeat (first | refine blk_drewN ?_ _ | refine blk_drew ?_ | refine blk_alloc ?_ _)); refine blk_put (cs := #[.int .i64 (rd l0 0), .int .i64 0, .int .i64 0, .int .i64 0]) ?_ 1 _ rfl; (with_reducible repeat (first | refine blk_drewN ?_ _ | refine blk_drew ?_ | refine blk_alloc ?_ _)); refine blk_put (cs := #[.int .i64 0, .int .i64 0, .int .i64 0, .int .i64 0]) ?_ 0 _ rfl; (with_reducible repeat (first | refine blk_drewN ?_ _ | refine blk_drew ?_ | refine blk_alloc ?_ _)); exact BK107.out⟩
  have n1_ : Aside0 (Below w.heap.size w ((((w10.setCell ⟨gb107, 0, none⟩ (.int .i64 (rd l0 0))).setCell ⟨gb107, 1, none⟩ (.int .i64 (rd l0 1))).setCell ⟨gb107, 2, none⟩ (.int .i64 (rd l0 2))).setCell ⟨gb107, 3, none⟩ (.int .i64 (rd l0 3)))) := ⟨by repeat (first | (with_reducible first | exact HB.out | apply below_alloc | apply pw_below_drewN | apply below_drew1 | refine below_set ?_ GE107.out) | exact HB.out)⟩
  (try clear BK107)
  (try clear HB)
  generalize ((((w10.setCell ⟨gb107, 0, none⟩ (.int .i64 (rd l0 0))).setCell ⟨gb107, 1, none⟩ (.int .i64 (rd l0 1))).setCell ⟨gb107, 2, none⟩ (.int .i64 (rd l0 2))).setCell ⟨gb107, 3, none⟩ (.int .i64 (rd l0 3))) = w22 at n0_ n1_ ⊢
  have BK107 := n0_
  have HB := n1_
  clear n0_ n1_
  have n0_ := Aside0.mk (blk_drew BK107.out)
  have n1_ := Aside0.mk (below_drew1 HB.out)
  clear BK107
  clear HB
  have BK107 := n0_
  have HB := n1_
  clear n0_ n1_
  refine start_ (n := 20) (S := fun w' => w'.cell? ⟨gb107, 0, none⟩ = some (.int .i64 (rd l0 0)) ∧ w'.cell? ⟨gb107, 1, none⟩ = some (.int .i64 (rd l0 1)) ∧ w'.cell? ⟨gb107, 2, none⟩ = some (.int .i64 (rd l0 2)) ∧ w'.cell? ⟨gb107, 3, none⟩ = some (.int .i64 (rd l0 3))) (ds := []) #[false, false, false, false, false, false, false, false, false, false, false, false, false, false, false, false, false, false, false, false] (by kernel_rfl) rfl rfl ⟨(blk_cell BK107.out 0).trans rfl, (blk_cell BK107.out 1).trans rfl, (blk_cell BK107.out 2).trans rfl, (blk_cell BK107.out 3).trans rfl⟩ (fun hHeld => ?_); refine with_tabW super_Read.tab4 super_Read.bits4 (fun HT_ HW_ => ?_)
  generalize w22.drew = w23 at BK107 HB hHeld ⊢
  refine pure_ (i := 1) (N := some 25) (v := ?_) (a' := ?_) #[false, true, false, false, false, false, false, false, false, false, false, false, false, false, false, false, false, false, false, false] rfl rfl (any_of HT_.out (by kernel_rfl)) (fun _ _ _ h => h) (Or.inl ⟨by rfl, ?_⟩) ?_ ?_
  rotate_left
  · intro w'
    go_simp
    with_reducible rfl
  rotate_left
  · simp only [Act.put, List.setIfInBounds_toArray, List.set_cons_zero, List.set_cons_succ, i64_w, i32_w]
    rfl
  refine pure_ (i := 3) (N := some 27) (v := ?_) (a' := ?_) #[false, true, false, true, false, false, false, false, false, false, false, false, false, false, false, false, false, false, false, false] rfl rfl (any_of HT_.out (by kernel_rfl)) (fun _ _ _ h => h) (Or.inl ⟨by rfl, ?_⟩) ?_ ?_
  rotate_left
  · intro w'
    go_simp
    with_reducible rfl
  rotate_left
  · simp only [Act.put, List.setIfInBounds_toArray, List.set_cons_zero, List.set_cons_succ, i64_w, i32_w]
    rfl
  refine take_ (i := 0) (N := some 24) (v := ?_) (a' := ?_) #[true, true, false, true, false, false, false, false, false, false, false, false, false, false, false, false, false, false, false, false] rfl rfl (take_ofW HT_.out HW_.out (by kernel_rfl)) (fun _ _ _ h => h) (Or.inl ⟨by rfl, ?_⟩) hHeld ?_ ?_
  rotate_left
  · rintro w' ⟨s0, s1, s2, s3⟩
    go_simp
    with_reducible rfl
  rotate_left
  · simp only [Act.put, List.setIfInBounds_toArray, List.set_cons_zero, List.set_cons_succ, i64_w, i32_w]
    rfl
  refine take_ (i := 2) (N := some 26) (v := ?_) (a' := ?_) #[true, true, true, true, false, false, false, false, false, false, false, false, false, false, false, false, false, false, false, false] rfl rfl (take_ofW HT_.out HW_.out (by kernel_rfl)) (fun _ _ _ h => h) (Or.inl ⟨by rfl, ?_⟩) hHeld ?_ ?_
  rotate_left
  · rintro w' ⟨s0, s1, s2, s3⟩
    go_simp
    with_reducible rfl
  rotate_left
  · simp only [Act.put, List.setIfInBounds_toArray, List.set_cons_zero, List.set_cons_succ, i64_w, i32_w]
    rfl
  refine take_ (i := 4) (N := some 28) (v := ?_) (a' := ?_) #[true, true, true, true, true, false, false, false, false, false, false, false, false, false, false, false, false, false, false, false] rfl rfl (take_ofW HT_.out HW_.out (by kernel_rfl)) (fun _ _ _ h => h) (Or.inl ⟨by rfl, ?_⟩) hHeld ?_ ?_
  rotate_left
  · rintro w' ⟨s0, s1, s2, s3⟩
    go_simp
    with_reducible rfl
  rotate_left
  · simp only [Act.put, List.setIfInBounds_toArray, List.set_cons_zero, List.set_cons_succ, i64_w, i32_w]
    rfl
  refine one_ (i := 5) (N := some 29) #[true, true, true, true, true, true, false, false, false, false, false, false, false, false, false, false, false, false, false, false] rfl rfl (one_of HT_.out (by kernel_rfl)) (by decide) (fun K hK => ?_)
  refine goes_ Try.func67 (by kernel_rfl) rfl #[.int .i64 (rd l0 1), .int .i64 (rd l0 3)] (by rfl) rfl rfl qm_ ?_
  with_reducible refine (super_of.calls (rd l0 1) (rd l0 3) t112 t113 t114 t115 _ A15.out).mono ?_
  rintro e w24 ⟨rfl, hb⟩
  refine ⟨_, rfl, ?_⟩
  have n0_ := Aside0.mk (blk_below (g := gb107) (o := .cells #[.int .i64 (rd l0 0), .int .i64 (rd l0 1), .int .i64 (rd l0 2), .int .i64 (rd l0 3)] 90 (0, 0)) (qb_ BK107.out) hb)
  have n1_ := Aside0.mk (below_step (qg1_ GE107.out) hb)
  clear BK107
  clear HB
  have BK107 := n0_
  have HB := n1_
  clear n0_ n1_
  (try clear hb)
  (try clear hb2)
  (try clear hk)
  (try clear hi)
  refine hK.out _ _ ⟨(blk_cell BK107.out 0).trans rfl, (blk_cell BK107.out 1).trans rfl, (blk_cell BK107.out 2).trans rfl, (blk_cell BK107.out 3).trans rfl⟩ (fun hHeld => ?_)
  clear hK K
  refine norm_ (a' := ?_) ?_ ?_
  rotate_left
  · show Act.put _ (some 29) _ = _
    simp only [Act.put, List.setIfInBounds_toArray, List.set_cons_zero, List.set_cons_succ, i64_w, i32_w]
    rfl
  refine pure_ (i := 6) (N := some 30) (v := ?_) (a' := ?_) #[true, true, true, true, true, true, true, false, false, false, false, false, false, false, false, false, false, false, false, false] rfl rfl (any_of HT_.out (by kernel_rfl)) (fun _ _ _ h => h) (Or.inl ⟨by rfl, ?_⟩) ?_ ?_
  rotate_left
  · intro w'
    go_simp
    with_reducible rfl
  rotate_left
  · simp only [Act.put, List.setIfInBounds_toArray, List.set_cons_zero, List.set_cons_succ, i64_w, i32_w]
    rfl
  refine pure_ (i := 7) (N := some 31) (v := ?_) (a' := ?_) #[true, true, true, true, true, true, true, true, false, false, false, false, false, false, false, false, false, false, false, false] rfl rfl (any_of HT_.out (by kernel_rfl)) (fun _ _ _ h => h) (Or.inl ⟨by rfl, ?_⟩) ?_ ?_
  rotate_left
  · intro w'
    go_simp
    with_reducible rfl
  rotate_left
  · simp only [Act.put, List.setIfInBounds_toArray, List.set_cons_zero, List.set_cons_succ, i64_w, i32_w]
    rfl
  refine take_ (i := 8) (N := some 32) (v := ?_) (a' := ?_) #[true, true, true, true, true, true, true, true, true, false, false, false, false, false, false, false, false, false, false, false] rfl rfl (take_ofW HT_.out HW_.out (by kernel_rfl)) (fun _ _ _ h => h) (Or.inl ⟨by rfl, ?_⟩) hHeld ?_ ?_
  rotate_left
  · rintro w' ⟨s0, s1, s2, s3⟩
    go_simp
    with_reducible rfl
  rotate_left
  · simp only [Act.put, List.setIfInBounds_toArray, List.set_cons_zero, List.set_cons_succ, i64_w, i32_w]
    rfl
  refine one_ (i := 9) (N := some 33) #[true, true, true, true, true, true, true, true, true, true, false, false, false, false, false, false, false, false, false, false] rfl rfl (one_of HT_.out (by kernel_rfl)) (by decide) (fun K hK => ?_)
  refine goes_ Try.func68 (by kernel_rfl) rfl #[.agg #[.int .i64 (rd l0 0), .int .i64 (rd l0 1), .int .i64 (rd l0 2), .int .i64 (rd l0 3)]] (by rfl) rfl rfl qm_ ?_
  with_reducible refine (super_head_may.calls (rd l0 0) (rd l0 1) (rd l0 2) (rd l0 3) true _ A20.out).mono ?_
  rintro e w25 ⟨rfl, hb⟩
  refine ⟨_, rfl, ?_⟩
  have n0_ := Aside0.mk (blk_below (g := gb107) (o := .cells #[.int .i64 (rd l0 0), .int .i64 (rd l0 1), .int .i64 (rd l0 2), .int .i64 (rd l0 3)] 90 (0, 0)) (qb_ BK107.out) hb)
  have n1_ := Aside0.mk (below_step (qg1_ GE107.out) hb)
  clear BK107
  clear HB
  have BK107 := n0_
  have HB := n1_
  clear n0_ n1_
  (try clear hb)
  (try clear hb2)
  (try clear hk)
  (try clear hi)
  refine hK.out _ _ ⟨(blk_cell BK107.out 0).trans rfl, (blk_cell BK107.out 1).trans rfl, (blk_cell BK107.out 2).trans rfl, (blk_cell BK107.out 3).trans rfl⟩ (fun hHeld => ?_)
  clear hK K
  refine norm_ (a' := ?_) ?_ ?_
  rotate_left
  · show Act.put _ (some 33) _ = _
    simp only [Act.put, List.setIfInBounds_toArray, List.set_cons_zero, List.set_cons_succ, i64_w, i32_w]
    rfl
  refine pure_ (i := 10) (N := some 34) (v := ?_) (a' := ?_) #[true, true, true, true, true, true, true, true, true, true, true, false, false, false, false, false, false, false, false, false] rfl rfl (any_of HT_.out (by kernel_rfl)) (fun _ _ _ h => h) (Or.inl ⟨by rfl, ?_⟩) ?_ ?_
  rotate_left
  · intro w'
    go_simp
    with_reducible rfl
  rotate_left
  · simp only [Act.put, List.setIfInBounds_toArray, List.set_cons_zero, List.set_cons_succ, i64_w, i32_w]
    rfl
  refine pure_ (i := 11) (N := some 35) (v := ?_) (a' := ?_) #[true, true, true, true, true, true, true, true, true, true, true, true, false, false, false, false, false, false, false, false] rfl rfl (any_of HT_.out (by kernel_rfl)) (fun _ _ _ h => h) (Or.inl ⟨by rfl, ?_⟩) ?_ ?_
  rotate_left
  · intro w'
    go_simp
    with_reducible rfl
  rotate_left
  · simp only [Act.put, List.setIfInBounds_toArray, List.set_cons_zero, List.set_cons_succ, i64_w, i32_w]
    rfl
  refine pure_ (i := 12) (N := some 36) (v := ?_) (a' := ?_) #[true, true, true, true, true, true, true, true, true, true, true, true, true, false, false, false, false, false, false, false] rfl rfl (any_of HT_.out (by kernel_rfl)) (fun _ _ _ h => h) (Or.inl ⟨by rfl, ?_⟩) ?_ ?_
  rotate_left
  · intro w'
    go_simp
    with_reducible rfl
  rotate_left
  · simp only [Act.put, List.setIfInBounds_toArray, List.set_cons_zero, List.set_cons_succ, i64_w, i32_w]
    rfl
  refine pure_ (i := 13) (N := some 37) (v := ?_) (a' := ?_) #[true, true, true, true, true, true, true, true, true, true, true, true, true, true, false, false, false, false, false, false] rfl rfl (any_of HT_.out (by kernel_rfl)) (fun _ _ _ h => h) (Or.inl ⟨by rfl, ?_⟩) ?_ ?_
  rotate_left
  · intro w'
    go_simp
    with_reducible rfl
  rotate_left
  · simp only [Act.put, List.setIfInBounds_toArray, List.set_cons_zero, List.set_cons_succ, i64_w, i32_w]
    rfl
  refine pure_ (i := 15) (N := some 39) (v := ?_) (a' := ?_) #[true, true, true, true, true, true, true, true, true, true, true, true, true, true, false, true, false, false, false, false] rfl rfl (any_of HT_.out (by kernel_rfl)) (fun _ _ _ h => h) (Or.inl ⟨by rfl, ?_⟩) ?_ ?_
  rotate_left
  · intro w'
    go_simp
    with_reducible rfl
  rotate_left
  · simp only [Act.put, List.setIfInBounds_toArray, List.set_cons_zero, List.set_cons_succ, i64_w, i32_w]
    rfl
  refine pure_ (i := 16) (N := some 40) (v := ?_) (a' := ?_) #[true, true, true, true, true, true, true, true, true, true, true, true, true, true, false, true, true, false, false, false] rfl rfl (any_of HT_.out (by kernel_rfl)) (fun _ _ _ h => h) (Or.inl ⟨by rfl, ?_⟩) ?_ ?_
  rotate_left
  · intro w'
    go_simp
    with_reducible rfl
  rotate_left
  · simp only [Act.put, List.setIfInBounds_toArray, List.set_cons_zero, List.set_cons_succ, i64_w, i32_w]
    rfl
  refine pure_ (i := 17) (N := some 41) (v := ?_) (a' := ?_) #[true, true, true, true, true, true, true, true, true, true, true, true, true, true, false, true, true, true, false, false] rfl rfl (any_of HT_.out (by kernel_rfl)) (fun _ _ _ h => h) (Or.inl ⟨by rfl, ?_⟩) ?_ ?_
  rotate_left
  · intro w'
    go_simp
    with_reducible rfl
  rotate_left
  · simp only [Act.put, List.setIfInBounds_toArray, List.set_cons_zero, List.set_cons_succ, i64_w, i32_w]
    rfl
  refine take_ (i := 14) (N := some 38) (v := ?_) (a' := ?_) #[true, true, true, true, true, true, true, true, true, true, true, true, true, true, true, true, true, true, false, false] rfl rfl (take_ofW HT_.out HW_.out (by kernel_rfl)) (fun _ _ _ h => h) (Or.inl ⟨by rfl, ?_⟩) hHeld ?_ ?_
  rotate_left
  · rintro w' ⟨s0, s1, s2, s3⟩
    go_simp
    with_reducible rfl
  rotate_left
  · simp only [Act.put, List.setIfInBounds_toArray, List.set_cons_zero, List.set_cons_succ, i64_w, i32_w]
    rfl
  refine pure_ (i := 18) (N := some 42) (v := ?_) (a' := ?_) #[true, true, true, true, true, true, true, true, true, true, true, true, true, true, true, true, true, true, true, false] rfl rfl (any_of HT_.out (by kernel_rfl)) (fun _ _ _ h => h) (Or.inl ⟨by rfl, ?_⟩) ?_ ?_
  rotate_left
  · intro w'
    go_simp
    with_reducible rfl
  rotate_left
  · simp only [Act.put, List.setIfInBounds_toArray, List.set_cons_zero, List.set_cons_succ, i64_w, i32_w]
    rfl
  refine pure_ (i := 19) (N := some 43) (v := ?_) (a' := ?_) #[true, true, true, true, true, true, true, true, true, true, true, true, true, true, true, true, true, true, true, true] rfl rfl (any_of HT_.out (by kernel_rfl)) (fun _ _ _ h => h) (Or.inl ⟨by rfl, ?_⟩) ?_ ?_
  rotate_left
  · intro w'
    go_simp
    with_reducible rfl
  rotate_left
  · simp only [Act.put, List.setIfInBounds_toArray, List.set_cons_zero, List.set_cons_succ, i64_w, i32_w]
    rfl
  refine done_ (done_of HT_.out (by kernel_rfl)) ?_
  try go_wp2
  go_meet
  case rel => exact ⟨_, (((rd l0 1) != (wrap64 ((l0.length : Int) / 16)))), (by first | rfl | (simp; done) | (simp [*]; done)), H', ⟨by first | omega | exact Nat.le_refl _⟩, ⟨by (with_reducible repeat (first | refine blk_drewN ?_ _ | refine blk_drew ?_ | refine blk_alloc ?_ _)); exact BK107.out⟩, ⟨by repeat (first | (with_reducible first | exact HB.out | apply below_alloc | apply pw_below_drewN | apply below_drew1 | refine below_set ?_ GE107.out) | exact HB.out)⟩⟩
 case rest =>
  clear HC8
  try clear c1
  try clear c2
  try clear p2
  try clear c6
  try clear p6
  try clear c16
  try clear c16b0
  try clear c21
  obtain ⟨kq, x43_7, rfl, HA, HJ7, BK107, HB⟩ := hcut
  cases kq with
  | zero => exact absurd HA.out (by simp [super_Read.j0])
  | succ kj7 =>
   have H := HA.out
   clear HA
   simp only [super_Read.j0] at H
   by_cases c30 : x43_7 = true
   · subst c30
     have H1 : (some (0, 0, 80)) = some (r1, r2, r3) := by rw [if_pos rfl] at H; exact H
     clear H
     have H := H1
     clear H1
     simp only [Option.some.injEq, Prod.mk.injEq] at H
     obtain ⟨rfl, rfl, rfl⟩ := H
     go_wp2
     (try (go_step3; (try refine And.intro rfl ?_); (try show Code.wp _ _ _ _ _); go_wp2))
     (first | go_ret3 | (rw [jumpret]; go_ret3) | (rw [Exit.noGoto_ret]; go_ret3))
     exact ⟨qe_, by repeat (first | (with_reducible first | exact HB.out | apply below_alloc | apply pw_below_drewN | apply below_drew1 | refine below_set ?_ GE107.out) | exact HB.out)⟩
   replace c30 := Bool.eq_false_iff.mpr c30
   subst c30
   have H1 : (if 4 ≤ 16 then (if 16 ≤ (l0.length : Int) then (super_Read.l0 kj7 ((l0.take 16).drop 4) (((l0.take 16).drop 4).length : Int) 0 (rd l0 0) (rd l0 1) (rd l0 2) (rd l0 3)) else (none)) else (none)) = some (r1, r2, r3) := by rw [if_neg (show ¬ (false = true) by decide)] at H; exact H
   clear H
   have H := H1
   clear H1
   by_cases c31 : 4 ≤ 16
   rotate_left
   · rw [if_neg c31] at H
     exact absurd H (by simp)
   rw [if_pos c31] at H
   have c31b0 := eq_true c31
   have c31b1 : decide (4 ≤ 16) = true := decide_eq_true c31
   clear c31
   by_cases c32 : 16 ≤ (l0.length : Int)
   rotate_left
   · rw [if_neg c32] at H
     exact absurd H (by simp)
   rw [if_pos c32] at H
   have c32b0 := eq_true c32
   have c32b1 : decide (16 ≤ (l0.length : Int)) = true := decide_eq_true c32
   clear c32
   have H' := Aside0.mk H
   clear H
   obtain ⟨i033, hi033, _, hsz33, _⟩ := info_parts info3
   obtain ⟨A33, hcut33, hA33, hC33⟩ := print_mid_of (P := Try.prog) (Value.int .i64) 0 22 3 .i64 .i64 Try.underlying22 hi033 hsz33 (some ad108) c0 l0 4 16 (by omega) (by first | omega | exact of_decide_eq_true (by first | (with_reducible assumption) | assumption)) (of_decide_eq_true (by first | (with_reducible assumption) | assumption)) HC0.out
   have HR117 := Aside0.mk (Kd.C_of_reads (h1 := fun _ => rfl) (hA33 _ (Kd.reads_of_C HR0.out)))
   have HC117 := Aside0.mk hC33
   clear hA33 hC33 hi033 hsz33
   go_wp2
   have HLEN12 := Aside0.mk (show ((l0.take 16).drop 4).length = 12 by have h := of_eq_true c32b0; simp only [List.length_drop, List.length_take]; omega)
   go_loopg [47] kj7 (fun kq v47 w' => ∃ (x47_2 : Int), v47 = .int .i64 x47_2 ∧ Aside0 (super_Read.l0 kq ((l0.take 16).drop 4) (((l0.take 16).drop 4).length : Int) x47_2 (rd l0 0) (rd l0 1) (rd l0 2) (rd l0 3) = some (r1, r2, r3)) ∧ Aside0 (kq ≤ kj7) ∧ Aside0 (w'.heap[gb107]? = some (.cells #[.int .i64 (rd l0 0), .int .i64 (rd l0 1), .int .i64 (rd l0 2), .int .i64 (rd l0 3)] 90 (0, 0))) ∧ Aside0 (Below w.heap.size w w'))
   case atStart => exact ⟨(0), (by first | rfl | (simp; done) | (simp [*]; done)), H', ⟨Nat.le_refl _⟩, ⟨by (with_reducible repeat (first | refine blk_drewN ?_ _ | refine blk_drew ?_ | refine blk_alloc ?_ _)); exact BK107.out⟩, ⟨by repeat (first | (with_reducible first | exact HB.out | apply below_alloc | apply pw_below_drewN | apply below_drew1 | refine below_set ?_ GE107.out) | exact HB.out)⟩⟩
   case round =>
    clear H'
    try clear c1
    try clear c2
    try clear p2
    try clear c3
    try clear c6
    try clear p6
    try clear c16
    try clear c16b0
    try clear c21
    try clear c30
    try clear c31
    try clear c31b0
    try clear c31b1
    try clear c32
    try clear c32b0
    try clear c32b1
    try clear p2
    try clear p6
    obtain ⟨x47_2, rfl, HA, HK2, BK107, HB⟩ := hrel
    cases gk with
    | zero => exact absurd HA.out (by simp [super_Read.l0])
    | succ k2 =>
     have H := HA.out
     clear HA
     simp only [super_Read.l0] at H
     by_cases c34 : x47_2 < (((l0.take 16).drop 4).length : Int)
     · rw [if_pos c34] at H
       have c34b0 : decide (x47_2 < (((l0.take 16).drop 4).length : Int)) = true := decide_eq_true c34
       have c34zy : x47_2 < ((min 16 l0.length - 4 : Nat) : Int) := by have h1 := of_decide_eq_true c34b0; have h2 := HLEN12.out; simp only [List.length_drop, List.length_take] at h1; omega
       have c34zz : x47_2 < 12 := by have h1 := of_decide_eq_true c34b0; have h2 := HLEN12.out; omega
       clear c34
       by_cases c35 : 0 ≤ x47_2
       rotate_left
       · rw [if_neg c35] at H
         exact absurd H (by simp)
       rw [if_pos c35] at H
       have c35b0 : decide (0 ≤ x47_2) = true := decide_eq_true c35
       clear c35
       by_cases c36 : x47_2 < (((l0.take 16).drop 4).length : Int)
       rotate_left
       · rw [if_neg c36] at H
         exact absurd H (by simp)
       rw [if_pos c36] at H
       have c36b0 : decide (x47_2 < (((l0.take 16).drop 4).length : Int)) = true := decide_eq_true c36
       have c36zy : x47_2 < ((min 16 l0.length - 4 : Nat) : Int) := by have h1 := of_decide_eq_true c36b0; have h2 := HLEN12.out; simp only [List.length_drop, List.length_take] at h1; omega
       have c36zz : x47_2 < 12 := by have h1 := of_decide_eq_true c36b0; have h2 := HLEN12.out; omega
       clear c36
       by_cases c37 : (rd ((l0.take 16).drop 4) x47_2) = 0
       · rw [if_pos c37] at H
         have c37b0 : ((rd ((l0.take 16).drop 4) x47_2) == 0) = true := beq_iff_eq.mpr c37
         have c37b1 : ((rd ((l0.take 16).drop 4) x47_2) != 0) = false := bne_eq_false_iff_eq.mpr c37
         clear c37
         have H' := Aside0.mk H
         clear H
         have p118 : 0 ≤ (x47_2 : Int) := of_decide_eq_true (by first | (with_reducible assumption) | assumption)
         have q118 : x47_2 < (((l0.take 16).drop 4).length : Int) := of_decide_eq_true (by first | (with_reducible assumption) | assumption)
         obtain ⟨ad118, e118, hx118_0⟩ := Kd.at_int HR117.out x47_2 p118 q118
         cases e118
         replace hx118_0 := kc_ HB.out hx118_0
         replace p118 := eq_true p118
         replace q118 := eq_true q118
         go_wp2
         go_roundg k2
         case measure => have := HJ7.out; have := HK2.out; omega
         case rel => exact ⟨(wrap64 (x47_2 + 1)), (by first | rfl | (simp; done) | (simp [*]; done)), H', ⟨by have := HJ7.out; have := HK2.out; omega⟩, ⟨by (with_reducible repeat (first | refine blk_drewN ?_ _ | refine blk_drew ?_ | refine blk_alloc ?_ _)); exact BK107.out⟩, ⟨by repeat (first | (with_reducible first | exact HB.out | apply below_alloc | apply pw_below_drewN | apply below_drew1 | refine below_set ?_ GE107.out) | exact HB.out)⟩⟩
       rw [if_neg c37] at H
       have c37b0 : ((rd ((l0.take 16).drop 4) x47_2) == 0) = false := beq_eq_false_iff_ne.mpr c37
       have c37b1 : ((rd ((l0.take 16).drop 4) x47_2) != 0) = true := bne_iff_ne.mpr c37
       simp only [Option.some.injEq, Prod.mk.injEq] at H
       obtain ⟨rfl, rfl, rfl⟩ := H
       have p118 : 0 ≤ (x47_2 : Int) := of_decide_eq_true (by first | (with_reducible assumption) | assumption)
       have q118 : x47_2 < (((l0.take 16).drop 4).length : Int) := of_decide_eq_true (by first | (with_reducible assumption) | assumption)
       obtain ⟨ad118, e118, hx118_0⟩ := Kd.at_int HR117.out x47_2 p118 q118
       cases e118
       replace hx118_0 := kc_ HB.out hx118_0
       replace p118 := eq_true p118
       replace q118 := eq_true q118
       go_wp2
       (try (go_step3; (try refine And.intro rfl ?_); (try show Code.wp _ _ _ _ _); go_wp2))
       (first | go_ret3 | (rw [jumpret]; go_ret3) | (rw [Exit.noGoto_ret]; go_ret3))
       exact ⟨qe_, by repeat (first | (with_reducible first | exact HB.out | apply below_alloc | apply pw_below_drewN | apply below_drew1 | refine below_set ?_ GE107.out) | exact HB.out)⟩
     rw [if_neg c34] at H
     have c34b0 : decide (x47_2 < (((l0.take 16).drop 4).length : Int)) = false := decide_eq_false c34
     have c34zz : ¬ x47_2 < 12 := by have h1 := of_decide_eq_false c34b0; have h2 := HLEN12.out; omega
     clear c34
     simp only [Option.some.injEq, Prod.mk.injEq] at H
     obtain ⟨rfl, rfl, rfl⟩ := H
     try go_wp2
     have n0_ := Aside0.mk (blk_drew BK107.out)
     have n1_ := Aside0.mk (below_drew1 HB.out)
     clear BK107
     clear HB
     have BK107 := n0_
     have HB := n1_
     clear n0_ n1_
     refine start_ (n := 7) (S := fun w' => w'.cell? ⟨gb107, 0, none⟩ = some (.int .i64 (rd l0 0)) ∧ w'.cell? ⟨gb107, 1, none⟩ = some (.int .i64 (rd l0 1)) ∧ w'.cell? ⟨gb107, 2, none⟩ = some (.int .i64 (rd l0 2)) ∧ w'.cell? ⟨gb107, 3, none⟩ = some (.int .i64 (rd l0 3))) (ds := []) #[false, false, false, false, false, false, false] (by kernel_rfl) rfl rfl ⟨(blk_cell BK107.out 0).trans rfl, (blk_cell BK107.out 1).trans rfl, (blk_cell BK107.out 2).trans rfl, (blk_cell BK107.out 3).trans rfl⟩ (fun hHeld => ?_)
     generalize wr.drew = w38 at BK107 HB hHeld ⊢
     refine pure_ (i := 0) (N := some 54) (v := ?_) (a' := ?_) #[true, false, false, false, false, false, false] rfl rfl (by kernel_rfl) (fun _ _ _ h => h) (Or.inl ⟨by rfl, ?_⟩) ?_ ?_
     rotate_left
     · intro w'
       go_simp
       with_reducible rfl
     rotate_left
     · simp only [Act.put, List.setIfInBounds_toArray, List.set_cons_zero, List.set_cons_succ, i64_w, i32_w]
       rfl
     refine pure_ (i := 2) (N := some 56) (v := ?_) (a' := ?_) #[true, false, true, false, false, false, false] rfl rfl (by kernel_rfl) (fun _ _ _ h => h) (Or.inl ⟨by rfl, ?_⟩) ?_ ?_
     rotate_left
     · intro w'
       go_simp
       with_reducible rfl
     rotate_left
     · simp only [Act.put, List.setIfInBounds_toArray, List.set_cons_zero, List.set_cons_succ, i64_w, i32_w]
       rfl
     refine take_ (i := 1) (N := some 55) (v := ?_) (a' := ?_) #[true, true, true, false, false, false, false] rfl rfl (by kernel_rfl) (fun _ _ _ h => h) (Or.inl ⟨by rfl, ?_⟩) hHeld ?_ ?_
     rotate_left
     · rintro w' ⟨s0, s1, s2, s3⟩
       go_simp
       with_reducible rfl
     rotate_left
     · simp only [Act.put, List.setIfInBounds_toArray, List.set_cons_zero, List.set_cons_succ, i64_w, i32_w]
       rfl
     refine pure_ (i := 4) (N := some 2) (v := ?_) (a' := ?_) #[true, true, true, false, true, false, false] rfl rfl (by kernel_rfl) (fun _ _ _ h => h) (Or.inl ⟨by rfl, ?_⟩) ?_ ?_
     rotate_left
     · intro w'
       go_simp
       with_reducible rfl
     rotate_left
     · simp only [Act.put, List.setIfInBounds_toArray, List.set_cons_zero, List.set_cons_succ, i64_w, i32_w]
       rfl
     refine take_ (i := 3) (N := some 57) (v := ?_) (a' := ?_) #[true, true, true, true, true, false, false] rfl rfl (by kernel_rfl) (fun _ _ _ h => h) (Or.inl ⟨by rfl, ?_⟩) hHeld ?_ ?_
     rotate_left
     · rintro w' ⟨s0, s1, s2, s3⟩
       go_simp
       with_reducible rfl
     rotate_left
     · simp only [Act.put, List.setIfInBounds_toArray, List.set_cons_zero, List.set_cons_succ, i64_w, i32_w]
       rfl
     refine pure_ (i := 5) (N := some 3) (v := ?_) (a' := ?_) #[true, true, true, true, true, true, false] rfl rfl (by kernel_rfl) (fun _ _ _ h => h) (Or.inl ⟨by rfl, ?_⟩) ?_ ?_
     rotate_left
     · intro w'
       go_simp
       with_reducible rfl
     rotate_left
     · simp only [Act.put, List.setIfInBounds_toArray, List.set_cons_zero, List.set_cons_succ, i64_w, i32_w]
       rfl
     refine pure_ (i := 6) (N := some 4) (v := ?_) (a' := ?_) #[true, true, true, true, true, true, true] rfl rfl (by kernel_rfl) (fun _ _ _ h => h) (Or.inl ⟨by rfl, ?_⟩) ?_ ?_
     rotate_left
     · intro w'
       go_simp
       with_reducible rfl
     rotate_left
     · simp only [Act.put, List.setIfInBounds_toArray, List.set_cons_zero, List.set_cons_succ, i64_w, i32_w]
       rfl
     refine done_ (by kernel_rfl) ?_
     try go_wp2
     (try (go_step3; (try refine And.intro rfl ?_); (try show Code.wp _ _ _ _ _); go_wp2))
     (first | go_ret3 | (rw [jumpret]; go_ret3) | (rw [Exit.noGoto_ret]; go_ret3))
     exact ⟨qe_, by repeat (first | (with_reducible first | exact HB.out | apply below_alloc | apply pw_below_drewN | apply below_drew1 | refine below_set ?_ GE107.out) | exact HB.out)⟩

end
end Go.Proofs.Ytliaemoomhfcdaa.SU
namespace Go.Proofs.Ytliaemoomhfcdaa.SL
open Go.RowKit Go.Proofs.YtliaemoomhfcdaaW.PrintWords Go.Proofs.YtliaemoomhfcdaaW.PrintLast Go.Proofs.YtliaemoomhfcdaaW.PrintMore
attribute [local go_sem] max2_int min2_int max_two min_two max_three min_three max_four min_four   -- for this text's walks alone
set_option linter.unusedVariables false
set_option linter.unusedSimpArgs false
noncomputable section



def errW : Option Int → Value
  | none => .nilIface
  | some c => .iface 0 (.int .i64 c)
theorem errW_none : errW none = .nilIface := rfl
theorem errW_some (c : Int) : errW (some c) = .iface 0 (.int .i64 c) := rfl

-- the values' own types

end
end Go.Proofs.Ytliaemoomhfcdaa.SL
namespace Go.Proofs.Ytliaemoomhfcdaa.SL
open Go.RowKit Go.Proofs.YtliaemoomhfcdaaW.PrintWords Go.Proofs.YtliaemoomhfcdaaW.PrintLast Go.Proofs.YtliaemoomhfcdaaW.PrintMore
attribute [local go_sem] max2_int min2_int max_two min_two max_three min_three max_four min_four   -- for this text's walks alone
set_option linter.unusedVariables false
set_option linter.unusedSimpArgs false
noncomputable section

/-! ### slices_Index_int_int: function 93 -/
def slices_Index_int_int.l0 : Nat → List Int → Int → Int → Int → Option (Int)
  | 0, _, _, _, _ => none
  | k + 1, x0, x1, x7, x8 => if x8 < x7 then (if 0 ≤ x8 then (if x8 < (x0.length : Int) then (if x1 = (rd x0 x8) then (some x8) else (slices_Index_int_int.l0 k x0 x1 x7 (wrap64 (x8 + 1)))) else (none)) else (none)) else (some (-1))
def slices_Index_int_int.f (k : Nat) (l0 : List Int) (a1 : Int) : Option (Int) := slices_Index_int_int.l0 k l0 a1 (l0.length : Int) 0
theorem slices_Index_int_int.mono_l : ∀ k, (∀ y0 y1 y2 y3, LeO (slices_Index_int_int.l0 k y0 y1 y2 y3) (slices_Index_int_int.l0 (k + 1) y0 y1 y2 y3))
  | 0 => fun _ _ _ _ r h => by simp [slices_Index_int_int.l0] at h
  | k + 1 => by
    have ih0 := slices_Index_int_int.mono_l k
    · intro y0 y1 y2 y3
      unfold slices_Index_int_int.l0
      repeat' first
      | (with_reducible exact ih0 _ _ _ _)
      | (with_reducible exact LeO.refl _)
      | (with_reducible exact LeO.none _)
      | (with_reducible refine LeO.ite ?_ ?_)
      | (with_reducible refine LeO.bind ?_ (fun _ => ?_))
      | exact ih0 _ _ _ _
      | exact LeO.none _
      | refine LeO.ite ?_ ?_
      | refine LeO.bind ?_ (fun _ => ?_)
theorem slices_Index_int_int.mono : ∀ a0 a1 k, LeO (slices_Index_int_int.f k a0 a1) (slices_Index_int_int.f (k + 1) a0 a1) := by
 intro a0 a1 k
 have ih0 := slices_Index_int_int.mono_l k
 unfold slices_Index_int_int.f
 repeat' first
     | (with_reducible exact ih0 _ _ _ _)
     | (with_reducible exact LeO.refl _)
     | (with_reducible exact LeO.none _)
     | (with_reducible refine LeO.ite ?_ ?_)
     | (with_reducible refine LeO.bind ?_ (fun _ => ?_))
     | exact ih0 _ _ _ _
     | exact LeO.none _
     | refine LeO.ite ?_ ?_
     | refine LeO.bind ?_ (fun _ => ?_)
set_option maxHeartbeats 8000000 in
set_option maxRecDepth 100000 in
theorem slices_Index_int_int.calls (k : Nat) (A0 : Option Addr) (c0 : Nat) (l0 : List Int) (a1 : Int) (r : Int) (w : World) (hr0 : Kd.C (Kd.int .i64) w A0 l0.length l0) (hc0 : l0.length ≤ c0) (h : slices_Index_int_int.f k l0 a1 = some r) :
    Calls Try.prog 93 #[.slice A0 l0.length c0, .int .i64 a1] w fun e w' => e = .returned (.int .i64 r) ∧ Drawn0 w w' := by
 have HR0 := Aside0.mk hr0
 have HC0 := Aside0.mk hc0
 clear hr0 hc0
 have H : (slices_Index_int_int.l0 k l0 a1 (l0.length : Int) 0) = some r := h
 clear h
 have H' := Aside0.mk H
 clear H
 go_enter Try.func93, Try.ntmps93
 go_wp2
 go_loopg [8] k (fun kq v8 w' => ∃ (x8_1 : Int), v8 = .int .i64 x8_1 ∧ Aside0 (slices_Index_int_int.l0 kq l0 a1 (l0.length : Int) x8_1 = some r) ∧ Aside0 (kq ≤ k) ∧ Drawn0 w w')
 case atStart => exact ⟨(0), (by first | rfl | (simp; done) | (simp [*]; done)), H', ⟨Nat.le_refl _⟩, by repeat (first | exact Drawn0.refl _ | apply Drawn0.step)⟩
 case round =>
  clear H'
  try clear p2
  obtain ⟨x8_1, rfl, HA, HK1, ⟨m1, rfl⟩⟩ := hrel
  cases gk with
  | zero => exact absurd HA.out (by simp [slices_Index_int_int.l0])
  | succ k1 =>
   have H := HA.out
   clear HA
   simp only [slices_Index_int_int.l0] at H
   by_cases c3 : x8_1 < (l0.length : Int)
   rotate_left
   · rw [if_neg c3] at H
     have c3b0 : decide (x8_1 < (l0.length : Int)) = false := decide_eq_false c3
     clear c3
     obtain rfl := Option.some.inj H
     go_wp2
     go_ret
     exact ⟨by first | rfl | (simp; done) | (simp [*]; done), by repeat (first | exact Drawn0.refl _ | apply Drawn0.step)⟩
   rw [if_pos c3] at H
   have c3b0 : decide (x8_1 < (l0.length : Int)) = true := decide_eq_true c3
   clear c3
   by_cases c4 : 0 ≤ x8_1
   rotate_left
   · rw [if_neg c4] at H
     exact absurd H (by simp)
   rw [if_pos c4] at H
   have c4b0 : decide (0 ≤ x8_1) = true := decide_eq_true c4
   clear c4
   by_cases c5 : x8_1 < (l0.length : Int)
   rotate_left
   · rw [if_neg c5] at H
     exact absurd H (by simp)
   rw [if_pos c5] at H
   have c5b0 : decide (x8_1 < (l0.length : Int)) = true := decide_eq_true c5
   clear c5
   by_cases c6 : a1 = (rd l0 x8_1)
   · rw [if_pos c6] at H
     have c6b0 : (a1 == (rd l0 x8_1)) = true := beq_iff_eq.mpr c6
     have c6b1 : (a1 != (rd l0 x8_1)) = false := bne_eq_false_iff_eq.mpr c6
     clear c6
     obtain rfl := Option.some.inj H
     have p101 : 0 ≤ (x8_1 : Int) := of_decide_eq_true (by first | (with_reducible assumption) | assumption)
     have q101 : x8_1 < (l0.length : Int) := of_decide_eq_true (by first | (with_reducible assumption) | assumption)
     obtain ⟨ad101, e101, hx101_0⟩ := Kd.at_int HR0.out x8_1 p101 q101
     cases e101
     replace p101 := eq_true p101
     replace q101 := eq_true q101
     go_wp2
     go_ret
     exact ⟨by first | rfl | (simp; done) | (simp [*]; done), by repeat (first | exact Drawn0.refl _ | apply Drawn0.step)⟩
   rw [if_neg c6] at H
   have c6b0 : (a1 == (rd l0 x8_1)) = false := beq_eq_false_iff_ne.mpr c6
   have c6b1 : (a1 != (rd l0 x8_1)) = true := bne_iff_ne.mpr c6
   have H' := Aside0.mk H
   clear H
   have p101 : 0 ≤ (x8_1 : Int) := of_decide_eq_true (by first | (with_reducible assumption) | assumption)
   have q101 : x8_1 < (l0.length : Int) := of_decide_eq_true (by first | (with_reducible assumption) | assumption)
   obtain ⟨ad101, e101, hx101_0⟩ := Kd.at_int HR0.out x8_1 p101 q101
   cases e101
   replace p101 := eq_true p101
   replace q101 := eq_true q101
   go_wp2
   go_roundg k1
   case measure => have := HK1.out; omega
   case rel => exact ⟨(wrap64 (x8_1 + 1)), (by first | rfl | (simp; done) | (simp [*]; done)), H', ⟨by have := HK1.out; omega⟩, by repeat (first | exact Drawn0.refl _ | apply Drawn0.step)⟩

/-! ### slices_Contains_int_int: function 55 -/
def slices_Contains_int_int.f (k : Nat) (l0 : List Int) (a1 : Int) : Option (Bool) := (slices_Index_int_int.f k l0 a1).bind fun t102 => (some (decide (t102 ≥ 0)))
theorem slices_Contains_int_int.mono : ∀ a0 a1 k, LeO (slices_Contains_int_int.f k a0 a1) (slices_Contains_int_int.f (k + 1) a0 a1) := by
 intro a0 a1 k
 unfold slices_Contains_int_int.f
 repeat' first
     | (with_reducible exact slices_Index_int_int.mono _ _ _)
     | (with_reducible exact LeO.refl _)
     | (with_reducible exact LeO.none _)
     | (with_reducible refine LeO.ite ?_ ?_)
     | (with_reducible refine LeO.bind ?_ (fun _ => ?_))
     | exact slices_Index_int_int.mono _ _ _
     | exact LeO.none _
     | refine LeO.ite ?_ ?_
     | refine LeO.bind ?_ (fun _ => ?_)
set_option maxHeartbeats 8000000 in
set_option maxRecDepth 100000 in
theorem slices_Contains_int_int.calls (k : Nat) (A0 : Option Addr) (c0 : Nat) (l0 : List Int) (a1 : Int) (r : Bool) (w : World) (hr0 : Kd.C (Kd.int .i64) w A0 l0.length l0) (hc0 : l0.length ≤ c0) (h : slices_Contains_int_int.f k l0 a1 = some r) :
    Calls Try.prog 55 #[.slice A0 l0.length c0, .int .i64 a1] w fun e w' => e = .returned (.bool r) ∧ Drawn0 w w' := by
 have HR0 := Aside0.mk hr0
 have HC0 := Aside0.mk hc0
 clear hr0 hc0
 have H : ((slices_Index_int_int.f k l0 a1).bind fun t102 => (some (decide (t102 ≥ 0)))) = some r := h
 clear h
 replace H := Option.bind_eq_some_iff.mp H
 obtain ⟨t102, A30, H⟩ := H
 replace H : (some (decide (t102 ≥ 0))) = some r := H
 have A3 := Aside0.mk A30
 clear A30
 obtain rfl := Option.some.inj H
 go_enter Try.func55, Try.ntmps55
 go_wp2_with (first | ((with_reducible refine gate_callee (f := 93) rfl ?_); refine goesL_ (some 7) rfl rfl Try.func93 (by kernel_rfl) rfl #[.slice A0 l0.length c0, .int .i64 a1] rfl qm_ ?_; (with_reducible refine (slices_Index_int_int.calls k _ _ l0 a1 t102 _ ?side1 ?side2 A3.out).mono ?_); (case side1 => repeat (first | exact HR0.out | (with_reducible refine Kd.C_alloc ?_ _) | (with_reducible refine Kd.C_drewN ?_ _) | (with_reducible refine Kd.C_drew ?_))); (case side2 => exact HC0.out); rintro e w' ⟨rfl, ⟨nd, rfl⟩⟩; refine ⟨_, rfl, ?_⟩))
 go_ret
 exact ⟨by first | rfl | (simp; done) | (simp [*]; done), by repeat (first | exact Drawn0.refl _ | apply Drawn0.step)⟩

end
end Go.Proofs.Ytliaemoomhfcdaa.SL
namespace Go.Proofs.Ytliaemoomhfcdaa
open Go.RowKit Go.Proofs.YtliaemoomhfcdaaW.PrintWords
set_option maxHeartbeats 4000000
set_option maxRecDepth 100000
set_option linter.unusedVariables false
set_option linter.unusedSimpArgs false

theorem index_l0 (l : List Int) (x : Int) (hn : l.length ≤ 1000000000) : ∀ (d i : Nat), l.length - i = d → i ≤ l.length → ∀ k, d < k →
    ∃ r, SL.slices_Index_int_int.l0 k l x (l.length : Int) (i : Int) = some r ∧ (decide (r ≥ 0) = (l.drop i).contains x) := by
 intro d
 induction d with
 | zero =>
  intro i hd hi k hk
  obtain ⟨k, rfl⟩ : ∃ m, k = m + 1 := ⟨k - 1, by omega⟩
  refine ⟨-1, ?_, ?_⟩
  · simp only [SL.slices_Index_int_int.l0]
    rw [if_neg (by omega)]
  rw [List.drop_eq_nil_of_le (by omega)]; rfl
 | succ d ih =>
  intro i hd hi k hk
  obtain ⟨k, rfl⟩ : ∃ m, k = m + 1 := ⟨k - 1, by omega⟩
  have hlt : i < l.length := by omega
  have hw : wrap64 ((i : Int) + 1) = ((i + 1 : Nat) : Int) := by rw [w64_id (by omega) (by omega)]; rfl
  obtain ⟨r, hr, hd2⟩ := ih (i + 1) (by omega) (by omega) k (by omega)
  have hdr : l.drop i = rd l (i : Int) :: l.drop (i + 1) := drop_cons_ hlt
  simp only [SL.slices_Index_int_int.l0]
  rw [if_pos (by omega), if_pos (by omega), if_pos (by omega), hw]
  by_cases h : x = rd l (i : Int)
  · refine ⟨(i : Int), by rw [if_pos h], ?_⟩
    rw [hdr, h]; simp
  refine ⟨r, by rw [if_neg h]; exact hr, ?_⟩
  rw [hd2, hdr, List.contains_cons]
  have : (x == rd l (i : Int)) = false := by simpa using h
  rw [this, Bool.false_or]
theorem contains_int (A : Option Addr) (c : Nat) (l : List Int) (x : Int) (w : World) (h : Kd.C (Kd.int .i64) w A l.length l) (hc : l.length ≤ c) (hn : l.length ≤ 1000000000) :
    Calls Try.prog 55 #[.slice A l.length c, .int .i64 x] w fun e w' => e = .returned (.bool (l.contains x)) ∧ Drawn0 w w' := by
 obtain ⟨r, hr, hd⟩ := index_l0 l x hn l.length 0 (by omega) (by omega) (l.length + 1) (by omega)
 refine SL.slices_Contains_int_int.calls (l.length + 1) A c l x _ w h hc ?_
 unfold SL.slices_Contains_int_int.f SL.slices_Index_int_int.f
 have hr2 : SL.slices_Index_int_int.l0 (l.length + 1) l x (l.length : Int) 0 = some r := hr
 rw [hr2]
 simp only [Option.bind_some]
 rw [hd]; rfl

def superRead (ws : List Int) : Int × Int × Int :=
  if ws.length < 32 then (0, 0, 80) else
  if rd ws 0 = 7015 ∧ rd ws 2 = sumOf [7015, rd ws 1] ∧ superMay (rd ws 1) (rd ws 3) = true ∧ rd ws 1 = (ws.length : Int) / 16 ∧ ((ws.take 16).drop 4).all (· == 0) = true then (rd ws 1, rd ws 3, 0) else (0, 0, 80)
/-- The leaves' blocks, from one on: what there is so far, and the next one. -/
def leavesGo (ws : List Int) : Nat → List Int → Int → Option (List Int)
  | 0, out, at' => if at' = 0 then some out else none
  | n + 1, out, at' => if at' = 0 then some out else if (nodeRead ws at').2 = 0 ∧ (nodeRead ws at').1.level = 0 ∧ out.contains at' = false then leavesGo ws n (out ++ [at']) (nodeRead ws at').1.next else none
def leavesRead (ws : List Int) : Option (List Int) := if (superRead ws).2.2 = 0 then leavesGo ws (ws.length / 16 + 1) [] 1 else none
theorem zeros_l0 (zs : List Int) (a b c d : Int) (hn : zs.length ≤ 1000000000) : ∀ (n i : Nat), zs.length - i = n → i ≤ zs.length → ∀ k, n < k →
    SU.super_Read.l0 k zs (zs.length : Int) (i : Int) a b c d = some (if (zs.drop i).all (· == 0) = true then (b, d, 0) else (0, 0, 80)) := by
 intro n
 induction n with
 | zero =>
  intro i hd hi k hk
  obtain ⟨k, rfl⟩ : ∃ m, k = m + 1 := ⟨k - 1, by omega⟩
  simp only [SU.super_Read.l0]
  rw [if_neg (by omega), List.drop_eq_nil_of_le (by omega)]
  rfl
 | succ n ih =>
  intro i hd hi k hk
  obtain ⟨k, rfl⟩ : ∃ m, k = m + 1 := ⟨k - 1, by omega⟩
  have hlt : i < zs.length := by omega
  have hw : wrap64 ((i : Int) + 1) = ((i + 1 : Nat) : Int) := by rw [w64_id (by omega) (by omega)]; rfl
  have hdr : zs.drop i = rd zs (i : Int) :: zs.drop (i + 1) := drop_cons_ hlt
  have g := ih (i + 1) (by omega) (by omega) k (by omega)
  simp only [SU.super_Read.l0]
  rw [if_pos (by omega), if_pos (by omega), if_pos (by omega), hw, hdr]
  simp only [List.all_cons, Bool.and_eq_true, beq_iff_eq]
  by_cases h : rd zs (i : Int) = 0
  · rw [if_pos h, g]; simp [h]
  rw [if_neg h]; simp [h]
theorem superRead_f (ws : List Int) (hn : ws.length ≤ 1000000000) : SU.super_Read.f 15 ws = some (superRead ws) := by
 unfold SU.super_Read.f superRead
 by_cases h0 : ws.length < 32
 · rw [if_pos (by omega), if_pos h0]
 rw [if_neg (by omega), if_neg h0, if_pos (by omega), if_pos (by omega), if_pos (by omega), if_pos (by omega)]
 unfold SU.super_of.f SU.sum_Of.f
 rw [if_pos (by simp)]
 simp only [Option.bind_some]
 have hmay : SU.super_head_may.f (rd ws 0) (rd ws 1) (rd ws 2) (rd ws 3) = some (superMay (rd ws 1) (rd ws 3)) := by
   unfold SU.super_head_may.f superMay
   by_cases h1 : rd ws 1 ≥ 2
   · rw [if_pos h1, decide_eq_true h1]
     by_cases h2 : rd ws 1 ≤ 256
     · rw [if_pos h2, decide_eq_true h2]
       by_cases h3 : rd ws 3 ≥ 1
       · rw [if_pos h3, decide_eq_true h3]; rfl
       · rw [if_neg h3, decide_eq_false h3]; rfl
     · rw [if_neg h2, decide_eq_false h2]; rfl
   · rw [if_neg h1, decide_eq_false h1]; rfl
 rw [hmay]
 simp only [Option.bind_some]
 have hq : wrap64 ((ws.length : Int) / 16) = (ws.length : Int) / 16 := w64_id (by omega) (by omega)
 rw [hq]
 have hl : ((ws.take 16).drop 4).length = 12 := by simp; omega
 have hz := zeros_l0 ((ws.take 16).drop 4) (rd ws 0) (rd ws 1) (rd ws 2) (rd ws 3) (by omega) 12 0 (by omega) (by omega) 14 (by omega)
 rw [List.drop_zero] at hz
 have hj : SU.super_Read.j0 15 ws false (rd ws 0) (rd ws 1) (rd ws 2) (rd ws 3) = some (if ((ws.take 16).drop 4).all (· == 0) = true then (rd ws 1, rd ws 3, 0) else (0, 0, 80)) := by
   simp only [SU.super_Read.j0]
   rw [if_neg (by simp), if_pos (by omega), if_pos (by omega)]
   exact hz
 have hjt : SU.super_Read.j0 15 ws true (rd ws 0) (rd ws 1) (rd ws 2) (rd ws 3) = some (0, 0, 80) := by
   simp only [SU.super_Read.j0]
   rw [if_pos trivial]
 by_cases h1 : rd ws 0 = 7015
 rotate_left
 · rw [if_pos (by simp [h1]), hjt, if_neg (fun hh => h1 hh.1)]
 by_cases h2 : rd ws 2 = sumOf [7015, rd ws 1]
 rotate_left
 · rw [if_pos (by simp [h2]), hjt, if_neg (fun hh => h2 hh.2.1)]
 rw [if_neg (by rw [h1, h2]; simp)]
 cases hm : superMay (rd ws 1) (rd ws 3) with
 | false => rw [if_neg (by simp), hjt, if_neg (fun hh => by simp at hh)]
 | true =>
  rw [if_pos rfl]
  by_cases h3 : rd ws 1 = (ws.length : Int) / 16
  rotate_left
  · rw [bne_t h3, hjt, if_neg (fun hh => h3 hh.2.2.2.1)]
  rw [bne_f h3, hj]
  congr 1
  by_cases h4 : ((ws.take 16).drop 4).all (· == 0) = true
  · rw [if_pos h4, if_pos ⟨h1, h2, rfl, h3, h4⟩]
  rw [if_neg h4, if_neg (fun hh => h4 hh.2.2.2.2)]
theorem superRead_any (A : Option Addr) (c : Nat) (ws : List Int) (w : World) (h : Kd.C (Kd.int .i64) w A ws.length ws) (hc : ws.length ≤ c) (hn : ws.length ≤ 1000000000) :
    Calls Try.prog 31 #[.slice A ws.length c] w fun e w' => e = .returned (.tuple #[.int .i64 (superRead ws).1, .int .i64 (superRead ws).2.1, .int .i64 (superRead ws).2.2]) ∧ Below w.heap.size w w' :=
  SU.super_Read.calls 15 A c ws _ _ _ w h hc (superRead_f ws hn)
/-- What the blocks of the leaves are handed back as, or why there are none. -/
def ChainPost (r : Option (List Int)) (w : World) (e : Ending) (w' : World) : Prop := match r with
  | some l => ∃ v, e = .returned v ∧ w'.ownsRow w.heap.size 3 1 v l.length (ints l) ∧ Below w.heap.size w w'
  | none => e = .panicked corruptChain ∧ Below w.heap.size w w'
theorem chainPost_none {r : Option (List Int)} {w w' : World} (h : r = none) (hb : Below w.heap.size w w') : ChainPost r w (.panicked corruptChain) w' := by subst h; exact ⟨rfl, hb⟩
theorem chainPost_some {r : Option (List Int)} {l : List Int} {w w' : World} {v : Value} (h : r = some l) (ho : w'.ownsRow w.heap.size 3 1 v l.length (ints l)) (hb : Below w.heap.size w w') : ChainPost r w (.returned v) w' := by subst h; exact ⟨v, rfl, ho, hb⟩
/-- What is so of the blocks that were gone through. -/
def LeavesOk (ws : List Int) (n : Nat) (l : List Int) : Prop := n + l.length = ws.length / 16 + 1 ∧ l.Nodup ∧ ∀ x ∈ l, 0 ≤ x ∧ x < (ws.length : Int) / 16
def sliceLen : Value → Nat
  | .slice _ n _ => n
  | _ => 0
theorem nodeRead_range {ws : List Int} {b : Int} (h : (nodeRead ws b).2 = 0) : 0 ≤ b ∧ b < (ws.length : Int) / 16 := by
 unfold nodeRead at h
 by_cases h0 : b < 0
 · rw [if_pos h0] at h; cases h
 rw [if_neg h0] at h
 by_cases h1 : (ws.length : Int) / 16 ≤ b
 · rw [if_pos h1] at h; cases h
 omega
theorem own_below_ {w w2 : World} {base : Nat} {e : TypeId} {size n : Nat} {v : Value} {xs : List Value} (h : w.ownsRow base e size v n xs) (hb : Below w.heap.size w w2) : w2.ownsRow base e size v n xs :=
  h.kept (row := none) ⟨hb.os, hb.tape, hb.output, hb.size, fun i hi _ => hb.block i hi⟩ (by cases hv : v.ownBlock with | none => exact .inl rfl | some k => exact .inr (by simp))
theorem C_of_own {w : World} {base : Nat} {A : Option Addr} {c : Nat} {l : List Int} (h : w.ownsRow base 3 1 (.slice A l.length c) l.length (ints l)) (hl : l.length ≤ 1000000000) : Kd.C (Kd.int .i64) w A l.length l := C_of_RI (RI.own h) (by omega)
theorem nodup_le : ∀ (m : Nat) (l : List Int), l.Nodup → (∀ x ∈ l, 0 ≤ x ∧ x < (m : Int)) → l.length ≤ m := by
 intro m
 induction m with
 | zero =>
  intro l hd hb
  cases l with
  | nil => exact Nat.le_refl _
  | cons x l => have := hb x (List.mem_cons_self ..); omega
 | succ m ih =>
  intro l hd hb
  have h1 := ih (l.erase (m : Int)) (hd.erase _) (fun x hx => by
    have hx2 := (List.Nodup.mem_erase_iff hd).1 hx
    have := hb x hx2.2
    have := hx2.1
    omega)
  rw [List.length_erase] at h1
  split at h1 <;> omega
theorem LeavesOk.pos {ws : List Int} {n : Nat} {l : List Int} (h : LeavesOk ws n l) : ∃ m, n = m + 1 := by
 have := nodup_le (ws.length / 16) l h.2.1 (fun x hx => by have := h.2.2 x hx; omega)
 exact ⟨n - 1, by have := h.1; omega⟩
theorem LeavesOk.snoc {ws : List Int} {n : Nat} {l : List Int} {x : Int} (h : LeavesOk ws (n + 1) l) (hx : 0 ≤ x ∧ x < (ws.length : Int) / 16) (hc : l.contains x = false) : LeavesOk ws n (l ++ [x]) := by
 refine ⟨by have := h.1; simp; omega, ?_, ?_⟩
 · rw [List.nodup_append]
   refine ⟨h.2.1, by simp, ?_⟩
   intro a ha b hb
   simp at hb
   subst hb
   intro e
   subst e
   simp at hc
   exact hc ha
 intro y hy
 rcases List.mem_append.1 hy with hy | hy
 · exact h.2.2 y hy
 simp at hy; subst hy; exact hx
theorem chain_any (A : Option Addr) (c : Nat) (ws : List Int) (w : World) (h : Kd.C (Kd.int .i64) w A ws.length ws) (hc : ws.length ≤ c) (hn : ws.length ≤ 1000000000) :
    Calls Try.prog 52 #[.slice A ws.length c] w (ChainPost (leavesRead ws) w) := by
 have HC := Lib.hid h
 have HSU := Lib.hid (superRead_any A c ws w h hc hn)
 clear h
 obtain ⟨r, hr⟩ : ∃ r, r = leavesRead ws := ⟨_, rfl⟩
 rw [← hr]
 unfold leavesRead at hr
 generalize superRead ws = sr at hr HSU
 obtain ⟨s1, s2, s3⟩ := sr
 simp only at hr HSU
 obtain ⟨i0, hi0, hz0, hz1, hz2⟩ := info_parts int_info
 by_cases hs : s3 = 0
 rotate_left
 · rw [if_neg hs] at hr
   have HR := Lib.hid hr
   have e1 := beq_f hs
   clear hr hs
   go_enter Try.func52, Try.ntmps52
   go_wp2_with (first
     | (go_at_call 31; refine HSU.out.mono ?_; rintro e w1 ⟨rfl, hB1⟩)
     | (go_at_call 90; refine (sound_no _).mono ?_; rintro e w2 ⟨rfl, hB2⟩))
   exact ⟨rfl, chainPost_none HR.out (hB1.next hB2)⟩
 subst hs
 rw [if_pos rfl] at hr
 have HR := Lib.hid hr
 clear hr
 go_enter Try.func52, Try.ntmps52
 go_wp2_with (first
   | (go_at_call 31; refine HSU.out.mono ?_; rintro e w1 ⟨rfl, hB1⟩; have HB1 := Lib.hid hB1; clear hB1)
   | (go_at_call 90; refine (sound_yes _).mono ?_; rintro e w2 ⟨rfl, rfl⟩))
 go_loopw [2, 6] (fun v a wr => ∃ (n : Nat) (l : List Int) (at' : Int), a = .int .i64 at' ∧ Hid (wr.ownsRow w.heap.size 3 1 v l.length (ints l)) ∧ Hid (Below w.heap.size w wr) ∧ Hid (r = leavesGo ws n l at') ∧ Hid (LeavesOk ws n l)) (fun v _ _ => ws.length / 16 + 1 - sliceLen v)
 case atStart => exact ⟨ws.length / 16 + 1, [], 1, rfl, Lib.hid (World.ownsRow_nil _ _ _ _), HB1, HR, Lib.hid ⟨rfl, List.nodup_nil, by simp⟩⟩
 case round =>
  obtain ⟨n, l, at1, rfl, HO, HB, HG, HL⟩ := hrel
  obtain ⟨m, rfl⟩ := HL.out.pos
  obtain ⟨A2, c2, rfl, hc2, _⟩ := own_cap HO.out
  have HC2 := Lib.hid hc2
  clear hc2
  have hln : l.length ≤ 1000000000 := by have := HL.out.1; omega
  by_cases ha : at1 = 0
  · subst ha
    have hg : r = some l := HG.out
    have HG2 := Lib.hid hg
    clear hg
    go_wp2
    go_ret
    exact chainPost_some HG2.out HO.out HB.out
  have ha1 := bne_t ha
  have ha2 := beq_f ha
  have hg : r = if (nodeRead ws at1).2 = 0 ∧ (nodeRead ws at1).1.level = 0 ∧ l.contains at1 = false then leavesGo ws m (l ++ [at1]) (nodeRead ws at1).1.next else none := by
    have := HG.out
    rw [leavesGo, if_neg ha] at this
    exact this
  by_cases hnode : (nodeRead ws at1).2 = 0
  rotate_left
  · rw [if_neg (fun hh => hnode hh.1)] at hg
    have HG2 := Lib.hid hg
    have HN := Lib.hid (fun W hW => nodeOf_bad A c ws at1 W hW hc hn hnode)
    clear hg hnode ha
    go_wp2_with (first
      | (go_at_call 50; refine (HN.out _ (Kd.C_below HC.out HB.out)).mono ?_; rintro e w1 ⟨rfl, hB1⟩))
    exact ⟨rfl, chainPost_none HG2.out (HB.out.next hB1)⟩
  have HN := Lib.hid (fun W hW => nodeOf_ok A c ws at1 W hW hc hn hnode)
  have hrange := (nodeRead_range hnode)
  have HRG := Lib.hid hrange
  clear hrange
  generalize (nodeRead ws at1).1 = x at hg HN
  obtain ⟨lv, tu, ne, lo, sl⟩ := x
  simp only at hg HN
  by_cases hlv : lv = 0
  rotate_left
  · rw [if_neg (fun hh => hlv hh.2.1)] at hg
    have HG2 := Lib.hid hg
    have e1 := beq_f hlv
    clear hg hnode ha hlv
    go_wp2_with (first
      | (go_at_call 50; refine (HN.out _ (Kd.C_below HC.out HB.out)).mono ?_; rintro e w1 ⟨v, rfl, hR, hB1⟩; obtain ⟨A1, c1, rfl⟩ := Kd.R_slice hR; have HB1 := Lib.hid (HB.out.next hB1); clear hR hB1)
      | (go_at_call 90; refine (sound_no _).mono ?_; rintro e w2 ⟨rfl, hB2⟩))
    exact ⟨rfl, chainPost_none HG2.out ((HB1.out.alloc HB1.out.size _).next hB2)⟩
  subst hlv
  have HCT := Lib.hid (fun W hW => contains_int A2 c2 l at1 W hW HC2.out hln)
  cases hct : l.contains at1 with
  | true =>
   rw [hct] at HCT
   rw [if_neg (fun hh => by rw [hct] at hh; simp at hh)] at hg
   have HG2 := Lib.hid hg
   clear hg hnode ha hct
   go_wp2_with (first
     | (go_at_call 50; refine (HN.out _ (Kd.C_below HC.out HB.out)).mono ?_; rintro e w1 ⟨v, rfl, hR, hB1⟩; obtain ⟨A1, c1, rfl⟩ := Kd.R_slice hR; have HB1 := Lib.hid (HB.out.next hB1); have HO1 := Lib.hid (own_below_ HO.out hB1); clear hR hB1)
     | (go_at_call 55; refine (HCT.out _ (C_of_own (own_alloc_ HO1.out _) (by omega))).mono ?_; rintro e w3 ⟨rfl, ⟨nd, rfl⟩⟩)
     | (go_at_call 90; refine (sound_no _).mono ?_; rintro e w2 ⟨rfl, hB2⟩))
   exact ⟨rfl, chainPost_none HG2.out ((pw_below_drewN (HB1.out.alloc HB1.out.size _) _).next hB2)⟩
  | false =>
   rw [hct] at HCT
   rw [if_pos ⟨hnode, rfl, hct⟩] at hg
   have HG2 := Lib.hid hg
   have HCN := Lib.hid hct
   clear hg hnode ha hct
   go_upto_region 7 with (first
     | (go_at_call 50; refine (HN.out _ (Kd.C_below HC.out HB.out)).mono ?_; rintro e w1 ⟨v, rfl, hR, hB1⟩; obtain ⟨A1, c1, rfl⟩ := Kd.R_slice hR; have HB1 := Lib.hid (HB.out.next hB1); have HO1 := Lib.hid (own_below_ HO.out hB1); clear hR hB1)
     | (go_at_call 55; refine (HCT.out _ (C_of_own (own_alloc_ HO1.out _) (by omega))).mono ?_; rintro e w3 ⟨rfl, ⟨nd, rfl⟩⟩)
     | (go_at_call 90; refine (sound_yes _).mono ?_; rintro e w2 ⟨rfl, rfl⟩))
   have hfl : ((w1.alloc (.cells #[.int .i64 0, .int .i64 tu, .int .i64 ne, .int .i64 lo, .slice A1 sl.length c1] 24)).drewN nd).cell? ⟨w1.heap.size, 2, none⟩ = some (.int .i64 ne) := (cell_of_row _ _ _ _ _ _ (heap_alloc_new w1 _)).trans rfl
   have hO2 : ((w1.alloc (.cells #[.int .i64 0, .int .i64 tu, .int .i64 ne, .int .i64 lo, .slice A1 sl.length c1] 24)).drewN nd).ownsRow w.heap.size 3 1 (.slice A2 l.length c2) l.length (ints l) := own_alloc_ HO1.out _
   have hB2 : Below w.heap.size w ((w1.alloc (.cells #[.int .i64 0, .int .i64 tu, .int .i64 ne, .int .i64 lo, .slice A1 sl.length c1] 24)).drewN nd) := pw_below_drewN (HB1.out.alloc HB1.out.size _) _
   have hlt2 : w1.heap.size < ((w1.alloc (.cells #[.int .i64 0, .int .i64 tu, .int .i64 ne, .int .i64 lo, .slice A1 sl.length c1] 24)).drewN nd).heap.size := by show w1.heap.size < (w1.alloc _).heap.size; simp
   have hnb : (Value.slice A2 l.length c2).ownBlock ≠ some w1.heap.size := fun e => by have := own_lt HO1.out e; omega
   have HO2 := Lib.hid hO2
   have HB2 := Lib.hid hB2
   have HLT2 := Lib.hid hlt2
   have HNB := Lib.hid hnb
   clear hO2 hB2 hlt2 hnb HO1 HB1
   generalize (w1.alloc (.cells #[.int .i64 0, .int .i64 tu, .int .i64 ne, .int .i64 lo, .slice A1 sl.length c1] 24)).drewN nd = W2 at hfl HO2 HB2 HLT2 ⊢
   go_region_held3 (fun w' => w'.cell? ⟨w1.heap.size, 2, none⟩ = some (.int .i64 ne))
     (first
       | go_keep
       | (rw [hgrow.cell_far _ (by simp; have := HLT2.out; omega) (Ne.symm HNB.out)]; assumption))
     ((refine step_append_lies _ (by rfl) _ _ _ (by rfl) w.heap.size 3 i0 _ 1 8 Try.underlying22 hi0 hz0 hz1 hz2 rfl (by omega) _ l.length _ (by rfl) ((HO2.out.alloc _).drew) ⟨_, 0, none⟩ 1 1 [_] (by rfl) (by rfl) (World.news_of_block (cs := #[_]) (t := 3) (fr := (0, 0)) (heap_alloc_new _ _)) (by simp [Value.oneCell']) (by omega) (by simp only [maxLen]; omega) (by omega) (by simp; have := HB2.out.size; omega) _ rfl ?_; intro gx cx w4 hownx hgrow hat hlt))
   have hone : w4.ownsRow w.heap.size 3 1 (.slice (some ⟨gx, 0, none⟩) (l.length + 1) cx) (l ++ [at1]).length (ints (l ++ [at1])) := by simpa using hownx
   have hB4 : Below w.heap.size w w4 := ((HB2.out.alloc HB2.out.size _).drew).grown hgrow (by simp; have := HB2.out.size; omega) (fun g hg => own_ge HO2.out hg)
   have hok : LeavesOk ws m (l ++ [at1]) := LeavesOk.snoc HL.out HRG.out HCN.out
   have HONE := Lib.hid hone
   have HB4 := Lib.hid hB4
   have HOK := Lib.hid hok
   have hlm : l.length + 1 ≤ ws.length / 16 + 1 := by have := HL.out.1; omega
   clear hone hB4 hok hownx hgrow hat hlt hfl
   go_wp2
   refine ⟨⟨m, l ++ [at1], ne, rfl, HONE, HB4, HG2, HOK⟩, ?_⟩
   show ws.length / 16 + 1 - (l.length + 1) < ws.length / 16 + 1 - l.length
   omega
end Go.Proofs.Ytliaemoomhfcdaa
namespace Go.Proofs.Ytliaemoomhfcdaa
open Go.RowKit Go.Proofs.YtliaemoomhfcdaaW.PrintWords
set_option maxHeartbeats 4000000
set_option maxRecDepth 100000
set_option linter.unusedVariables false
set_option linter.unusedSimpArgs false

/-- What there is of a cell's making, and of what was done behind it. -/
theorem errCell {w w2 : World} {v : Value} {t : TypeId} (hb : Below (w.heap.size + 1) (w.alloc (.cells #[v] t)) w2) : w2.heap[w.heap.size]? = some (.cells #[v] t (0, 0)) := (hb.block w.heap.size (by omega)).trans (heap_alloc_new w (.cells #[v] t))
theorem leavesSettled {tmps : Array Value} {W : World} {g : Nat} {v : Value} {x : Int} {R : Ending → World → Prop} {u : FrameMode} (hu : settle u = .returning) (h4 : tmps.getD 2 undef = v) (h5 : tmps.getD 3 undef = .pointer (some ⟨g, 0, none⟩))
    (hc : W.cell? ⟨g, 0, none⟩ = some (.int .i64 x)) (h : R (.returned (.tuple #[v, .int .i64 x])) W) : Leaves Try.prog Try.f24 tmps R [] (settle u) W := by
 rw [hu]
 have hr : (results Try.f24 tmps).run Try.prog W = .ok (.tuple #[v, .int .i64 x]) W := by
   rw [Array.getD_eq_getD_getElem?] at h4 h5
   simp [results, Try.results24, h4, h5, go_sem, hc]
 exact ⟨_, hr, h⟩
def leavesAns (ws : List Int) : List Int × Int := match leavesRead ws with
  | some l => (l, 0)
  | none => ([], 110)
def LeavesPost (r : List Int × Int) (w : World) (e : Ending) (w' : World) : Prop := ∃ v, e = .returned (.tuple #[v, .int .i64 r.2]) ∧ Kd.R (Kd.int .i64) 3 w' w.heap.size (fun _ => True) v r.1 ∧ Below w.heap.size w w'
theorem leaves_any (A : Option Addr) (c : Nat) (ws : List Int) (w : World) (h : Kd.C (Kd.int .i64) w A ws.length ws) (hc : ws.length ≤ c) (hn : ws.length ≤ 1000000000) :
    Calls Try.prog 24 #[.slice A ws.length c] w (LeavesPost (leavesAns ws) w) := by
 have HC := Lib.hid h
 have HCH := Lib.hid (fun W hW => chain_any A c ws W hW hc hn)
 clear h
 unfold leavesAns
 generalize leavesRead ws = r at HCH ⊢
 cases r with
 | none =>
  simp only
  obtain ⟨ans, hans⟩ : ∃ ans : List Int × Int, ans = ([], 110) := ⟨_, rfl⟩
  rw [← hans]
  have HANS := Lib.hid hans
  clear hans
  go_enter_defers Try.func24, Try.ntmps24
  go_wp2_with (first
    | (go_at_call 52; refine (HCH.out _ (Kd.C_alloc HC.out _)).mono ?_; rintro e w1 ⟨rfl, hB1⟩))
  have hb : Below (w.heap.size + 1) (w.alloc (.cells #[.int .i64 0] 26)) w1 := by simpa using hB1
  have hrow := errCell hb
  refine leaves_cons (f := 48) (args := #[.pointer (some ⟨w.heap.size, 0, none⟩)]) (by simp) (by simp [go_sem]) ?_
  refine (told_panicking ⟨w.heap.size, 0, none⟩ 0 _ (cell_of_row _ _ 0 _ _ _ hrow) (frozen_of_row _ _ 0 _ _ hrow)).mono ?_
  rintro e u' w'' ⟨rfl, rfl, rfl⟩
  have hrow1 := (heap_setCell_same _ _ 0 _ _ (.int .i64 110) ((Below.heap_alloc w1 (.cells #[] 106) w.heap.size (by have := hb.size; simp at this; omega)).trans hrow)).trans rfl
  refine leavesSettled rfl rfl rfl (cell_of_row _ _ 0 _ _ _ hrow1) ?_
  rw [HANS.out]
  exact ⟨_, rfl, Kd.R_mono (Kd.R_nil _ _ _ _ (fun _ => True)) (fun _ _ => trivial), ((((Below.refl _ _).alloc (Nat.le_refl _) _).next hB1).alloc (by have := hb.size; simp at this; omega) _).setCell (p := ⟨w.heap.size, 0, none⟩) (Nat.le_refl _) _⟩
 | some l =>
  simp only
  obtain ⟨ans, hans⟩ : ∃ ans : List Int × Int, ans = (l, 0) := ⟨_, rfl⟩
  rw [← hans]
  have HANS := Lib.hid hans
  clear hans
  go_enter_defers Try.func24, Try.ntmps24
  go_wp2_with (first
    | (go_at_call 52; refine (HCH.out _ (Kd.C_alloc HC.out _)).mono ?_; rintro e w1 ⟨v, rfl, hown, hB1⟩; obtain ⟨hc2, hz2⟩ := ecell1 hB1; have HO := Lib.hid hown; have HB := Lib.hid hB1; clear hown hB1))
  have hb : Below (w.heap.size + 1) (w.alloc (.cells #[.int .i64 0] 26)) w1 := by simpa using HB.out
  have hrow := errCell hb
  refine leaves_cons (f := 48) (args := #[.pointer (some ⟨w.heap.size, 0, none⟩)]) (by simp) (by simp [go_sem]) ?_
  refine (told_idle ⟨w.heap.size, 0, none⟩ _).mono ?_
  rintro e u' w'' ⟨rfl, rfl, rfl⟩
  have hrow1 := (heap_setCell_same _ _ 0 _ _ (.int .i64 0) hrow).trans rfl
  refine leavesSettled rfl rfl rfl (cell_of_row _ _ 0 _ _ _ hrow1) ?_
  rw [HANS.out]
  refine ⟨_, rfl, ?_, (((Below.refl _ _).alloc (Nat.le_refl _) _).next HB.out).setCell (p := ⟨w.heap.size, 0, none⟩) (Nat.le_refl _) _⟩
  have h1 := Kd.R_bound (R_of_ints HO.out)
  refine Kd.R_mono (Kd.R_lower (Kd.R_step h1 (fun k hk _ => Below.heap_setCell w1 ⟨w.heap.size, 0, none⟩ _ k ?_)) (by simp)) (fun _ _ => trivial)
  have := hk.2.1
  simp at this
  show k ≠ w.heap.size
  omega
end Go.Proofs.Ytliaemoomhfcdaa
namespace Go.Proofs
open Go.Shelf
def Try.lays108_ren : Go.Shelf.Ren := ⟨fun | 108 => 93 | n => n, fun | 28 => 22 | 3 => 3 | 0 => 0 | 4 => 4 | n => n, fun | n => n⟩
theorem Try.lays108 : Go.Proofs.Lays.n108 Try.prog Try.lays108_ren := {
  mixed := by kernel_rfl
  f108 := Try.func93.trans (congrArg some (by kernel_rfl))
  t0 := Try.underlying0
  a0 := Try.isAgg0
  z0 := Try.sizeOf0
  v0 := Try.zeroValue0
  t3 := Try.underlying3
  a3 := Try.isAgg3
  z3 := Try.sizeOf3
  v3 := Try.zeroValue3
  t4 := Try.underlying4
  a4 := Try.isAgg4
  z4 := Try.sizeOf4
  v4 := Try.zeroValue4
  t28 := Try.underlying22
  a28 := Try.isAgg22
  z28 := Try.sizeOf22
  v28 := Try.zeroValue22 }
open Go.Lib in
theorem Try.slices_Index_int (b off n c : Nat) (zs : List Int) (x : Int) (w : World) (hz : n ≤ zs.length) (hbig : n ≤ 9223372036854775807) (hc : ∀ j, j < zs.length → w.cell? ⟨b, off + j, none⟩ = some (.int .i64 (zs.getD j 0))) :
    Calls Try.prog 93 #[.slice (some ⟨b, off, none⟩) n c, .int .i64 x] w fun e w' => e = .returned (.int .i64 (Lib.idxOf (zs.take n) x)) ∧ w' = w := Any.slices_Index_int Try.lays108 b off n c zs x w hz hbig hc
open Go.Lib in
theorem Try.slices_Index_int_empty (a : Option Addr) (c : Nat) (x : Int) (w : World) :
    Calls Try.prog 93 #[.slice a 0 c, .int .i64 x] w fun e w' => e = .returned (.int .i64 (Lib.idxOf [] x)) ∧ w' = w := Any.slices_Index_int_empty Try.lays108 a c x w
def Try.lays107_ren : Go.Shelf.Ren := ⟨fun | 107 => 55 | 108 => 93 | n => n, fun | 28 => 22 | 3 => 3 | 4 => 4 | 0 => 0 | n => n, fun | n => n⟩
theorem Try.lays107 : Go.Proofs.Lays.n107 Try.prog Try.lays107_ren := {
  mixed := by kernel_rfl
  f107 := Try.func55.trans (congrArg some (by kernel_rfl))
  f108 := Try.func93.trans (congrArg some (by kernel_rfl))
  t0 := Try.underlying0
  a0 := Try.isAgg0
  z0 := Try.sizeOf0
  v0 := Try.zeroValue0
  t3 := Try.underlying3
  a3 := Try.isAgg3
  z3 := Try.sizeOf3
  v3 := Try.zeroValue3
  t4 := Try.underlying4
  a4 := Try.isAgg4
  z4 := Try.sizeOf4
  v4 := Try.zeroValue4
  t28 := Try.underlying22
  a28 := Try.isAgg22
  z28 := Try.sizeOf22
  v28 := Try.zeroValue22 }
open Go.Lib in
theorem Try.slices_Contains_int (b off n c : Nat) (zs : List Int) (x : Int) (w : World) (hz : n ≤ zs.length) (hbig : n ≤ 9223372036854775807) (hc : ∀ j, j < zs.length → w.cell? ⟨b, off + j, none⟩ = some (.int .i64 (zs.getD j 0))) :
    Calls Try.prog 55 #[.slice (some ⟨b, off, none⟩) n c, .int .i64 x] w fun e w' => e = .returned (.bool ((zs.take n).contains x)) ∧ w' = w := Any.slices_Contains_int Try.lays107 b off n c zs x w hz hbig hc
open Go.Lib in
theorem Try.slices_Contains_int_empty (a : Option Addr) (c : Nat) (x : Int) (w : World) :
    Calls Try.prog 55 #[.slice a 0 c, .int .i64 x] w fun e w' => e = .returned (.bool false) ∧ w' = w := Any.slices_Contains_int_empty Try.lays107 a c x w
def Try.lays111_ren : Go.Shelf.Ren := ⟨fun | 111 => 47 | n => n, fun | 28 => 22 | 3 => 3 | 4 => 4 | 0 => 0 | n => n, fun | n => n⟩
theorem Try.lays111 : Go.Proofs.Lays.n111 Try.prog Try.lays111_ren := {
  mixed := by kernel_rfl
  f111 := Try.func47.trans (congrArg some (by kernel_rfl))
  t0 := Try.underlying0
  a0 := Try.isAgg0
  z0 := Try.sizeOf0
  v0 := Try.zeroValue0
  t3 := Try.underlying3
  a3 := Try.isAgg3
  z3 := Try.sizeOf3
  v3 := Try.zeroValue3
  t4 := Try.underlying4
  a4 := Try.isAgg4
  z4 := Try.sizeOf4
  v4 := Try.zeroValue4
  t28 := Try.underlying22
  a28 := Try.isAgg22
  z28 := Try.sizeOf22
  v28 := Try.zeroValue22 }
open Go.RowKit Go.Lib in
theorem Try.slices_Equal_int (b1 o1 n c b2 o2 m d : Nat) (xs ys : List Int) (w : World) (hx : n ≤ xs.length) (hy : m ≤ ys.length) (hbig : n ≤ 9223372036854775807) (hbig2 : m ≤ 9223372036854775807) (hc1 : ∀ j, j < xs.length → w.cell? ⟨b1, o1 + j, none⟩ = some (.int .i64 (xs.getD j 0))) (hc2 : ∀ j, j < ys.length → w.cell? ⟨b2, o2 + j, none⟩ = some (.int .i64 (ys.getD j 0))) :
    Calls Try.prog 47 #[.slice (some ⟨b1, o1, none⟩) n c, .slice (some ⟨b2, o2, none⟩) m d] w fun e w' => e = .returned (.bool (xs.take n == ys.take m)) ∧ ∃ q, w' = w.drewN q := Any.slices_Equal_int Try.lays111 b1 o1 n c b2 o2 m d xs ys w hx hy hbig hbig2 hc1 hc2
open Go.RowKit Go.Lib in
theorem Try.slices_Equal_int_empty (a1 a2 : Option Addr) (c m d : Nat) (w : World) (hbig2 : m ≤ 9223372036854775807) :
    Calls Try.prog 47 #[.slice a1 0 c, .slice a2 m d] w fun e w' => e = .returned (.bool (decide (m = 0))) ∧ w' = w := Any.slices_Equal_int_empty Try.lays111 a1 a2 c m d w hbig2
def Try.laysNm215_ren : Go.Shelf.Ren := ⟨fun | 15 => 86 | n => n, fun | 22 => 22 | 3 => 3 | 4 => 4 | n => n, fun | n => n⟩
theorem Try.laysNm215 : Go.Proofs.Lays2.n15 Try.prog Try.laysNm215_ren := {
  mixed := by kernel_rfl
  f15 := Try.func86.trans (congrArg some (by kernel_rfl))
  t3 := Try.underlying3
  a3 := Try.isAgg3
  z3 := Try.sizeOf3
  v3 := Try.zeroValue3
  t4 := Try.underlying4
  a4 := Try.isAgg4
  z4 := Try.sizeOf4
  v4 := Try.zeroValue4
  t22 := Try.underlying22
  a22 := Try.isAgg22
  z22 := Try.sizeOf22
  v22 := Try.zeroValue22
  i3 := by kernel_rfl }
open Go.RowKit Go.Lib in
theorem Try.slices_Clone_int (b off n c : Nat) (zs : List Int) (w : World) (hz : n ≤ zs.length) (hbig : n * 8 ≤ 140737488355328) (hc : ∀ j, j < zs.length → w.cell? ⟨b, off + j, none⟩ = some (.int .i64 (zs.getD j 0))) :
    Calls Try.prog 86 #[.slice (some ⟨b, off, none⟩) n c] w fun e w' => ∃ v', e = .returned v' ∧ w'.ownsRow w.heap.size 3 1 v' n ((zs.take n).map (Value.int .i64)) ∧ v' ≠ .slice none 0 0 ∧ Below w.heap.size w w' := Any.slices_Clone_int Try.laysNm215 b off n c zs w hz hbig hc
open Go.RowKit Go.Lib in
theorem Try.slices_Clone_int_nil (n c : Nat) (w : World) :
    Calls Try.prog 86 #[.slice none n c] w fun e w' => e = .returned (.slice none 0 0) ∧ w' = w := Any.slices_Clone_int_nil Try.laysNm215 n c w
open Go.RowKit Go.Lib in
theorem Try.slices_Clone_int_zero (a : Addr) (c : Nat) (w : World) :
    Calls Try.prog 86 #[.slice (some a) 0 c] w fun e w' => ∃ v', e = .returned v' ∧ w'.ownsRow w.heap.size 3 1 v' 0 [] ∧ v' ≠ .slice none 0 0 ∧ Below w.heap.size w w' := Any.slices_Clone_int_zero Try.laysNm215 a c w
def Try.laysNm220_ren : Go.Shelf.Ren := ⟨fun | 20 => 115 | n => n, fun | 22 => 22 | 3 => 3 | 4 => 4 | 0 => 0 | n => n, fun | n => n⟩
theorem Try.laysNm220 : Go.Proofs.Lays2.n20 Try.prog Try.laysNm220_ren := {
  mixed := by kernel_rfl
  f20 := Try.func115.trans (congrArg some (by kernel_rfl))
  t0 := Try.underlying0
  a0 := Try.isAgg0
  z0 := Try.sizeOf0
  v0 := Try.zeroValue0
  t3 := Try.underlying3
  a3 := Try.isAgg3
  z3 := Try.sizeOf3
  v3 := Try.zeroValue3
  t4 := Try.underlying4
  a4 := Try.isAgg4
  z4 := Try.sizeOf4
  v4 := Try.zeroValue4
  t22 := Try.underlying22
  a22 := Try.isAgg22
  z22 := Try.sizeOf22
  v22 := Try.zeroValue22
  i3 := by kernel_rfl }
open Go.RowKit Go.Lib Go.Sort in
theorem Try.slices_Compact_int_arr (blk off cap : Nat) (d : Array Int) (w : World) (hH : Holds encI w blk off d) (hsz : d.size ≤ 9223372036854775807) (hcap : d.size ≤ cap) :
    Calls Try.prog 115 #[.slice (some ⟨blk, off, none⟩) d.size cap] w fun e w' => e = .returned (.slice (some ⟨blk, off, none⟩) (compactUpTo d d.size).length cap) ∧ ∃ q, w' = putRow encI (Sort.ahead w q) blk off (compactUpTo d d.size ++ List.replicate (d.size - (compactUpTo d d.size).length) 0).toArray := Any.slices_Compact_int_arr Try.laysNm220 blk off cap d w hH hsz hcap
open Go.RowKit Go.Lib Go.Sort in
theorem Try.slices_Compact_int (blk off cap : Nat) (zs : List Int) (w : World) (hH : Holds (Value.int .i64) w blk off zs.toArray) (hsz : zs.length ≤ 9223372036854775807) (hcap : zs.length ≤ cap) :
    Calls Try.prog 115 #[.slice (some ⟨blk, off, none⟩) zs.length cap] w fun e w' => e = .returned (.slice (some ⟨blk, off, none⟩) (Lib.compact zs).length cap) ∧ ∃ q, w' = putRow (Value.int .i64) (Sort.ahead w q) blk off (Lib.compact zs ++ List.replicate (zs.length - (Lib.compact zs).length) 0).toArray := Any.slices_Compact_int Try.laysNm220 blk off cap zs w hH hsz hcap
open Go.RowKit Go.Lib Go.Sort in
theorem Try.slices_Compact_int_empty (a : Option Addr) (cap : Nat) (w : World) :
    Calls Try.prog 115 #[.slice a 0 cap] w fun e w' => e = .returned (.slice a 0 cap) ∧ w' = w := Any.slices_Compact_int_empty Try.laysNm220 a cap w
open Go.RowKit Go.Lib Go.Sort in
theorem Try.slices_Compact_int_cells (b off n c : Nat) (zs : List Int) (w : World) (hz : n ≤ zs.length) (hbig : n ≤ 9223372036854775807) (hcap : n ≤ c) (hc : ∀ j, j < zs.length → w.cell? ⟨b, off + j, none⟩ = some (.int .i64 (zs.getD j 0))) (hf : ∀ j, j < n → w.frozen? ⟨b, off + j, none⟩ = false) :
    Calls Try.prog 115 #[.slice (some ⟨b, off, none⟩) n c] w fun e w' => e = .returned (.slice (some ⟨b, off, none⟩) (Lib.compact (zs.take n)).length c) ∧ ∃ q, w' = (w.drewN q).setCells b off ((Lib.compact (zs.take n) ++ List.replicate (n - (Lib.compact (zs.take n)).length) 0).map (Value.int .i64)) := Any.slices_Compact_int_cells Try.laysNm220 b off n c zs w hz hbig hcap hc hf
open Go.RowKit Go.Lib in
theorem Try.slices_Equal_int_lens (a1 a2 : Option Addr) (n c m d : Nat) (w : World) (hnm : n ≠ m) :
    Calls Try.prog 47 #[.slice a1 n c, .slice a2 m d] w fun e w' => e = .returned (.bool false) ∧ w' = w := Any.slices_Equal_int_lens Try.lays111 a1 a2 n c m d w hnm
end Go.Proofs
namespace Go.Proofs.Ytliaemoomhfcdaa
open Go.RowKit Go.Proofs.YtliaemoomhfcdaaW.PrintWords
set_option maxHeartbeats 4000000
set_option maxRecDepth 100000
set_option linter.unusedVariables false
set_option linter.unusedSimpArgs false

/-- A list without what is as the one ahead. -/
def plainFrom : Int → List Int → List Int
  | _, [] => []
  | p, y :: t => if y = p then plainFrom p t else y :: plainFrom y t
def plainOf : List Int → List Int
  | [] => []
  | x :: t => x :: plainFrom x t
theorem plainFrom_snoc (x : Int) : ∀ (l : List Int) (p : Int), plainFrom p (l ++ [x]) = plainFrom p l ++ (if (p :: l).getLast? = some x then [] else [x])
  | [], p => by
    simp only [List.nil_append, plainFrom, List.getLast?_singleton, Option.some.injEq]
    by_cases h : x = p
    · rw [if_pos h, if_pos h.symm]
    · rw [if_neg h, if_neg (fun e => h e.symm)]
  | y :: t, p => by
    rw [List.cons_append]
    simp only [plainFrom]
    have ih := fun q => plainFrom_snoc x t q
    have h2 : (p :: y :: t).getLast? = (y :: t).getLast? := by simp [List.getLast?_cons_cons]
    rw [h2]
    by_cases h : y = p
    · rw [if_pos h, if_pos h, ih p, h]
    · rw [if_neg h, if_neg h, ih y, List.cons_append]
theorem plainOf_snoc (l : List Int) (x : Int) : plainOf (l ++ [x]) = plainOf l ++ (if l.getLast? = some x then [] else [x]) := by
 cases l with
 | nil => simp [plainOf, plainFrom]
 | cons y t => rw [List.cons_append]; simp only [plainOf]; rw [plainFrom_snoc, List.cons_append]
theorem compact_up (d : Array Int) : ∀ m, m ≤ d.size → Lib.compactUpTo d m = plainOf (d.toList.take m)
  | 0, _ => by simp [Lib.compactUpTo, plainOf]
  | m + 1, h => by
    have ih := compact_up d m (by omega)
    have h1 : Lib.compactUpTo d (m + 1) = Lib.compactUpTo d m ++ (if Lib.keeps d m = true then [d[m]!] else []) := by
      unfold Lib.compactUpTo
      rw [List.range_succ, List.filter_append, List.map_append]
      congr 1
      by_cases hk : Lib.keeps d m = true
      · rw [if_pos hk]; simp [List.filter_cons, hk]
      · rw [if_neg hk]; simp [List.filter_cons, hk]
    have hlt : m < d.size := by omega
    have hm : d[m]! = d.toList[m]'(by simpa using hlt) := by simp [getElem!_pos, hlt]
    have h2 : d.toList.take (m + 1) = d.toList.take m ++ [d.toList[m]'(by simpa using hlt)] := by rw [List.take_succ_eq_append_getElem (by simpa using hlt)]
    rw [h1, h2, plainOf_snoc, ih, hm]
    congr 1
    cases m with
    | zero => simp [Lib.keeps]
    | succ m =>
      have hl : (d.toList.take (m + 1)).getLast? = some (d.toList[m]'(by simp; omega)) := by
        rw [List.take_succ_eq_append_getElem (by simp; omega)]
        simp
      rw [hl]
      have hk : Lib.keeps d (m + 1) = !(decide (d.toList[m + 1]'(by simpa using hlt) = d.toList[m]'(by simp; omega))) := by
        unfold Lib.keeps
        have e1 : d[m + 1]! = d.toList[m + 1]'(by simpa using hlt) := by simp [getElem!_pos, hlt]
        have e2 : d[m + 1 - 1]! = d.toList[m]'(by simp; omega) := by simp [getElem!_pos, show m < d.size by omega]
        rw [e1, e2]
        simp
      rw [hk]
      by_cases he : d.toList[m + 1]'(by simpa using hlt) = d.toList[m]'(by simp; omega)
      · rw [if_neg (by simp [he]), if_pos (by rw [he])]
      · rw [if_pos (by rw [decide_eq_false he]; rfl), if_neg (fun h => he (by injection h with h; exact h.symm))]
theorem compact_eq (l : List Int) : Lib.compact l = plainOf l := by
 unfold Lib.compact
 rw [compact_up l.toArray l.length (by simp)]
 simp
theorem plainFrom_len : ∀ (l : List Int) (p : Int), (plainFrom p l).length ≤ l.length
  | [], _ => Nat.le_refl _
  | y :: t, p => by
    simp only [plainFrom]
    split
    · exact Nat.le_trans (plainFrom_len t p) (Nat.le_succ _)
    · simp; exact plainFrom_len t y
theorem plainOf_len (l : List Int) : (plainOf l).length ≤ l.length := by
 cases l with
 | nil => exact Nat.le_refl _
 | cons x t => simp [plainOf]; exact plainFrom_len t x

def setMany (cs : Array Value) : Nat → List Value → Array Value
  | _, [] => cs
  | o, v :: r => setMany (cs.setIfInBounds o v) (o + 1) r
theorem setMany_list : ∀ (vs : List Value) (cs : Array Value) (o : Nat), o + vs.length ≤ cs.size → (setMany cs o vs).toList = cs.toList.take o ++ vs ++ cs.toList.drop (o + vs.length)
  | [], cs, o, h => by simp [setMany, List.take_append_drop]
  | v :: r, cs, o, h => by
    simp only [List.length_cons] at h
    rw [setMany, setMany_list r _ (o + 1) (by simp; omega)]
    have e1 : (cs.setIfInBounds o v).toList = cs.toList.set o v := by simp
    have hs : o < cs.toList.length := by simp; omega
    have e3 : (cs.toList.set o v).take (o + 1) = cs.toList.take o ++ [v] := by
      rw [List.take_succ_eq_append_getElem (by simpa using hs), List.take_set_of_le (Nat.le_refl _), List.getElem_set_self]
    rw [e1, List.drop_set_of_lt (by omega), e3, show o + 1 + r.length = o + (v :: r).length by simp; omega]
    simp
theorem setCells_row (g : Nat) (t : TypeId) : ∀ (vs : List Value) (o : Nat) (w : World) (cs : Array Value), w.heap[g]? = some (.cells cs t (0, 0)) → (w.setCells g o vs).heap[g]? = some (.cells (setMany cs o vs) t (0, 0))
  | [], _, _, _, h => h
  | v :: r, o, w, cs, h => by
    rw [World.setCells, setMany]
    exact setCells_row g t r (o + 1) _ _ (heap_setCell_same w g o cs t v h)
theorem below_setCells_w_ {B b : Nat} {a : World} (hb : B ≤ b) : ∀ (vs : List Value) (o : Nat) (w : World), Below B a w → Below B a (w.setCells b o vs)
  | [], _, _, h => h
  | v :: r, o, w, h => below_setCells_w_ hb r (o + 1) _ (h.setCell (p := ⟨b, o, none⟩) hb v)
theorem pw_below_drewN_ {B : Nat} {a w : World} (h : Below B a w) : ∀ q, Below B a (w.drewN q)
  | 0 => h
  | q + 1 => (pw_below_drewN_ h q).drew
/-- A node's slots, without what is there twice. -/
theorem plain_any (A : Option Addr) (c : Nat) (l : List Int) (w : World) (h : Kd.C (Kd.int .i64) w A l.length l) (hn : l.length ≤ 1000000000) :
    Calls Try.prog 91 #[.slice A l.length c] w fun e w' => ∃ v, e = .returned v ∧ w'.ownsRow w.heap.size 3 1 v (plainOf l).length (ints (plainOf l)) ∧ Below w.heap.size w w' := by
 have HI := Lib.hid (RI_of_C h)
 clear h
 go_enter Try.func91, Try.ntmps91
 go_wp2_with fail
 refine (clone_any A l.length c l w HI.out hn).mono ?_
 rintro e w1 ⟨v, rfl, hown, hB1⟩
 have HB1 := Lib.hid hB1
 clear hB1
 obtain ⟨hl, hv⟩ := hown
 rcases hv with ⟨hv, hnil⟩ | ⟨g, cap, cells, hv, hge, hrow, hcap, hmax, hsz, htake⟩
 · have hl0 : l = [] := List.eq_nil_of_length_eq_zero hnil
   subst hl0
   subst hv
   clear hnil hl
   go_wp2_with (go_at_call 115; refine (Try.slices_Compact_int_empty none 0 _).mono ?_; rintro e w2 ⟨rfl, rfl⟩)
   go_ret
   exact ⟨_, rfl, World.ownsRow_nil _ _ _ _, HB1.out⟩
 subst hv
 have hcells : ∀ j, j < l.length → w1.cell? ⟨g, 0 + j, none⟩ = some (.int .i64 (l.getD j 0)) := by
   intro j hj
   rw [Nat.zero_add, cell_of_row _ _ _ _ _ _ hrow]
   have h1 : (cells.toList.take (l.length * 1))[j]? = (ints l)[j]? := by rw [htake]
   rw [Nat.mul_one, List.getElem?_take_of_lt hj] at h1
   rw [← Array.getElem?_toList, h1, List.getElem?_map, List.getElem?_eq_getElem hj]
   simp [List.getD_eq_getElem?_getD, List.getElem?_eq_getElem hj]
 have hfro : ∀ j, j < l.length → w1.frozen? ⟨g, 0 + j, none⟩ = false := fun j _ => frozen_of_row _ _ _ _ _ hrow
 have hcon := Try.slices_Compact_int_cells g 0 l.length cap l w1 (Nat.le_refl _) (by omega) hcap hcells hfro
 rw [List.take_length, compact_eq] at hcon
 have HCON := Lib.hid hcon
 have HROW := Lib.hid hrow
 have HSZ := Lib.hid hsz
 have HCAP := Lib.hid hcap
 have HMAX := Lib.hid hmax
 have HGE := Lib.hid hge
 clear hcon hrow hsz hcap hmax hcells hfro htake hge hl
 go_wp2_with (go_at_call 115; refine HCON.out.mono ?_; rintro e w2 ⟨rfl, q, rfl⟩)
 go_ret
 have hpl := plainOf_len l
 have hlen : ((plainOf l ++ List.replicate (l.length - (plainOf l).length) 0).map (Value.int .i64)).length = l.length := by simp; omega
 have hrow2 := setCells_row g 3 ((plainOf l ++ List.replicate (l.length - (plainOf l).length) 0).map (Value.int .i64)) 0 (w1.drewN q) cells HROW.out
 have hlist := setMany_list ((plainOf l ++ List.replicate (l.length - (plainOf l).length) 0).map (Value.int .i64)) cells 0 (by rw [hlen, HSZ.out]; have := HCAP.out; omega)
 simp only [List.map_append, List.map_replicate] at hrow2 hlist hlen
 refine ⟨_, rfl, ?_, below_setCells_w_ HGE.out _ 0 _ (pw_below_drewN_ HB1.out q)⟩
 refine ⟨by simp, .inr ⟨g, cap, _, rfl, HGE.out, hrow2, by have := HCAP.out; omega, HMAX.out, ?_, ?_⟩⟩
 · rw [← Array.length_toList, hlist, List.length_append, List.length_append, hlen, List.take_zero, List.length_drop]
   have h1 := HSZ.out
   have h2 := HCAP.out
   rw [← Array.length_toList] at h1
   rw [h1]
   simp
   omega
 rw [hlist, List.take_zero, List.nil_append, Nat.mul_one, List.append_assoc, List.take_append_of_le_length (by simp)]
 rw [List.take_of_length_le (by simp)]
end Go.Proofs.Ytliaemoomhfcdaa
namespace Go.Proofs.Ytliaemoomhfcdaa
open Go.RowKit Go.Proofs.YtliaemoomhfcdaaW.PrintWords
attribute [local go_sem] le_flip run_max_strs
set_option maxHeartbeats 8000000
set_option maxRecDepth 100000
set_option linter.unusedVariables false
set_option linter.unusedSimpArgs false

/-- Are a leaf's slots as they are to be, from a key on, behind a last one? -/
def slotOk (ws : List Int) (low : ByteArray) (first : Bool) (last : ByteArray) (s : Int) : Bool :=
  decide ((recRead ws s).2 = 0) && decide ((recRead ws s).1.kind = 1) && !ltS (recRead ws s).1.key low && (first || ltS last (recRead ws s).1.key)
def slotsOk (ws : List Int) (low : ByteArray) : Bool → ByteArray → List Int → Bool
  | _, _, [] => true
  | first, last, s :: t => slotOk ws low first last s && slotsOk ws low false (maxS last (recRead ws s).1.key) t
/-- Is a leaf as it is to be, behind a key from which on the one ahead is? -/
def lowsOk (ws : List Int) (first : Bool) (last : ByteArray) (b : Int) : Bool :=
  if first then decide ((nodeRead ws b).1.low = 0) else ltS last (lowOfP ws (nodeRead ws b).1.low).1
def leafOk (ws : List Int) (first : Bool) (last : ByteArray) (b : Int) : Bool :=
  decide ((nodeRead ws b).2 = 0) && decide ((lowOfP ws (nodeRead ws b).1.low).2 = 0) && lowsOk ws first last b &&
  slotsOk ws (lowOfP ws (nodeRead ws b).1.low).1 true (lowOfP ws (nodeRead ws b).1.low).1 (plainOf (nodeRead ws b).1.slots)
def leavesOk (ws : List Int) : Bool → ByteArray → List Int → Bool
  | _, _, [] => true
  | first, last, b :: t => leafOk ws first last b && leavesOk ws false (lowOfP ws (nodeRead ws b).1.low).1 t
def lookRead (ws : List Int) : Option (List Int) := match leavesRead ws with
  | some l => if leavesOk ws true ⟨#[]⟩ l = true then some l else none
  | none => none
def checkRead (ws : List Int) : Int := if (lookRead ws).isSome then 0 else 110
theorem nodeRead_slots_ (ws : List Int) (b : Int) : (nodeRead ws b).1.slots.length ≤ 13 := by
 unfold nodeRead
 split
 · decide
 split
 · decide
 unfold nodeRead16
 split
 · exact slots_len _
 decide
theorem ltS_f {a b : ByteArray} (h : ltS a b = false) : Op.bytesLess a.toList b.toList = false := h
theorem ltS_t {a b : ByteArray} (h : ltS a b = true) : Op.bytesLess a.toList b.toList = true := h
theorem leavesGo_len (ws : List Int) : ∀ (n : Nat) (out : List Int) (b : Int) (l : List Int), leavesGo ws n out b = some l → l.length ≤ out.length + n
  | 0, out, b, l, h => by
    simp only [leavesGo] at h
    split at h
    · injection h with h; subst h; omega
    · cases h
  | n + 1, out, b, l, h => by
    simp only [leavesGo] at h
    split at h
    · injection h with h; subst h; omega
    · split at h
      · have := leavesGo_len ws n _ _ l h
        simp at this
        omega
      · cases h
theorem leaves_len {ws l : List Int} (h : leavesRead ws = some l) : l.length ≤ ws.length / 16 + 1 := by
 unfold leavesRead at h
 split at h
 · have := leavesGo_len ws _ _ _ l h
   simpa using this
 cases h
theorem dropK {l : List Int} {k : Nat} {b : Int} (h : l[k]? = some b) : l.drop k = b :: l.drop (k + 1) := by
 obtain ⟨hk, hb⟩ := List.getElem?_eq_some_iff.1 h
 rw [List.drop_eq_getElem_cons hk, hb]
theorem look_any (A : Option Addr) (c : Nat) (ws : List Int) (w : World) (h : Kd.C (Kd.int .i64) w A ws.length ws) (hc : ws.length ≤ c) (hn : ws.length ≤ 1000000000) :
    Calls Try.prog 51 #[.slice A ws.length c] w (ChainPost (lookRead ws) w) := by
 have HC := Lib.hid h
 have HCH := Lib.hid (fun W hW => chain_any A c ws W hW hc hn)
 have HRC := Lib.hid (fun s W hW => recRead_any A c ws s W hW hc hn)
 clear h
 obtain ⟨r, hr⟩ : ∃ r, r = lookRead ws := ⟨_, rfl⟩
 rw [← hr]
 unfold lookRead at hr
 have hlen : ∀ l, leavesRead ws = some l → l.length ≤ 100000000 := fun l hl => by have := leaves_len hl; omega
 generalize leavesRead ws = lv at hr HCH hlen
 have hu24 := Try.underlying24
 cases lv with
 | none =>
  simp only at hr
  have HR := Lib.hid hr
  clear hr
  go_enter Try.func51, Try.ntmps51
  go_wp2_with (first
    | (go_at_call 52; refine (HCH.out _ HC.out).mono ?_; rintro e w1 ⟨rfl, hB1⟩))
  exact ⟨rfl, chainPost_none HR.out hB1⟩
 | some l =>
 simp only at hr
 obtain ⟨gb, hgb⟩ : ∃ gb, gb = leavesOk ws true ⟨#[]⟩ l := ⟨_, rfl⟩
 rw [← hgb] at hr
 have HR := Lib.hid hr
 have HGB := Lib.hid hgb
 clear hr hgb
 go_enter Try.func51, Try.ntmps51
 go_wp2_with (first
   | (go_at_call 52; refine (HCH.out _ HC.out).mono ?_; rintro e w1 ⟨v, rfl, hown, hB1⟩; obtain ⟨A2, c2, rfl, hc2, hri⟩ := own_cap hown; have HO := Lib.hid hown; have HB1 := Lib.hid hB1; have HRI := Lib.hid hri; clear hown hB1 hri))
 have hln := hlen l rfl
 clear hlen
 go_loopw [4, 17] (fun s i wr => ∃ (k : Nat) (last : ByteArray), k ≤ l.length ∧ i = .int .i64 k ∧ s = .string last ∧ Hid (Below w1.heap.size w1 wr) ∧ Hid (gb = leavesOk ws (decide (k = 0)) last (l.drop k))) (fun _ i _ => l.length - (intOf i).toNat)
 case atStart => exact ⟨0, ⟨#[]⟩, by omega, rfl, rfl, Lib.hid (Below.refl _ _), HGB⟩
 case round =>
  obtain ⟨k, last, hk, rfl, rfl, HB2, HG⟩ := hrel
  by_cases hlt : k < l.length
  rotate_left
  · obtain rfl : k = l.length := by omega
    have hfin : r = some l := by
      have hg := HG.out
      rw [List.drop_length] at hg
      simp only [leavesOk] at hg
      rw [HR.out, hg]; rfl
    have HFIN := Lib.hid hfin
    clear hfin
    go_wp2
    go_ret
    exact chainPost_some HFIN.out (own_below_ HO.out HB2.out) (HB1.out.next HB2.out)
  obtain ⟨ad, b, hA, hbk, hxk, hat⟩ := (HRI.out.below HB2.out).at_ hlt
  subst hA
  have hg := HG.out
  rw [dropK hxk] at hg
  simp only [leavesOk] at hg
  have hr2 := hg
  clear hg HG
  have HXK := Lib.hid hxk
  clear hxk
  unfold leafOk at hr2
  by_cases hnode : (nodeRead ws b).2 = 0
  rotate_left
  · have hr3 : r = none := by rw [HR.out, hr2]; simp [hnode]
    have HR3 := Lib.hid hr3
    have HN := Lib.hid (fun W hW => nodeOf_bad A c ws b W hW hc hn hnode)
    clear hr2 hr3 hnode
    go_wp2_with (first
      | (go_at_call 50; refine (HN.out _ (Kd.C_below HC.out (HB1.out.next HB2.out))).mono ?_; rintro e w2 ⟨rfl, hB3⟩))
    exact ⟨rfl, chainPost_none HR3.out ((HB1.out.next HB2.out).next hB3)⟩
  have HN := Lib.hid (fun W hW => nodeOf_ok A c ws b W hW hc hn hnode)
  have hsl13 := nodeRead_slots_ ws b
  rw [decide_eq_true hnode, Bool.true_and] at hr2
  clear hnode
  unfold lowsOk at hr2
  generalize (nodeRead ws b).1 = nd at hr2 HN hsl13
  obtain ⟨nl, tu, ne, lo, sl⟩ := nd
  simp only at hr2 HN hsl13
  have HB3 := Lib.hid (HB1.out.next HB2.out)
  go_upto_region 7 with (first
      | (go_at_call 50; refine (HN.out _ (Kd.C_below HC.out HB3.out)).mono ?_; rintro e w2 ⟨v, rfl, hR, hB4⟩; obtain ⟨A1, c1, rfl⟩ := Kd.R_slice hR; obtain ⟨_, hc1, hC1⟩ := Kd.R_reads' hR; have HC1 := Lib.hid (Kd.C_alloc hC1 (.cells #[.int .i64 nl, .int .i64 tu, .int .i64 ne, .int .i64 lo, .slice A1 sl.length c1] 24)); have HB4 := Lib.hid (HB2.out.next hB4); clear hR hB4 hC1))
  have HROW := Lib.hid (heap_alloc_new w2 (.cells #[.int .i64 nl, .int .i64 tu, .int .i64 ne, .int .i64 lo, .slice A1 sl.length c1] 24))
  have HB5 := Lib.hid (HB4.out.alloc HB4.out.size (.cells #[.int .i64 nl, .int .i64 tu, .int .i64 ne, .int .i64 lo, .slice A1 sl.length c1] 24))
  by_cases hlow : (lowOfP ws lo).2 = 0
  rotate_left
  · have hr3 : r = none := by rw [HR.out, hr2]; simp [hlow]
    have HR3 := Lib.hid hr3
    clear hr2 hr3
    go_wp2_with (first
      | (refine wpList_load_row rfl 24 _ rfl w2.heap.size rfl 24 #[Value.int .i64 nl, Value.int .i64 tu, Value.int .i64 ne, Value.int .i64 lo, Value.slice A1 sl.length c1] (0, 0) _ HROW.out Try.underlying24 rfl (by kernel_rfl) ?_)
      | (go_at_call 49; refine (lowOf_bad A c ws _ _ _ lo _ rfl _ (Kd.C_below HC.out (HB1.out.next HB5.out)) hc hn hlow).mono ?_; rintro e w3 ⟨rfl, hB6⟩))
    exact ⟨rfl, chainPost_none HR3.out ((HB1.out.next HB5.out).next hB6)⟩
  have HLOW := Lib.hid (fun W hW => lowOf_ok A c ws nl tu ne lo (.slice A1 sl.length c1) rfl W hW hc hn hlow)
  rw [decide_eq_true hlow, Bool.true_and] at hr2
  clear hlow
  generalize (lowOfP ws lo).1 = low at hr2 HLOW
  go_upto_region 8 with (first
      | (refine wpList_load_row rfl 24 _ rfl w2.heap.size rfl 24 #[Value.int .i64 nl, Value.int .i64 tu, Value.int .i64 ne, Value.int .i64 lo, Value.slice A1 sl.length c1] (0, 0) _ HROW.out Try.underlying24 rfl (by kernel_rfl) ?_)
      | (go_at_call 49; refine (HLOW.out _ (Kd.C_below HC.out (HB1.out.next HB5.out))).mono ?_; rintro e w3 ⟨rfl, hB6⟩; have HB6 := Lib.hid (HB5.out.next hB6); have HROW3 := Lib.hid ((hB6.block w2.heap.size (by simp)).trans HROW.out); have HC3 := Lib.hid (Kd.C_below HC1.out hB6); clear hB6))
  clear HROW HC1 HB4 HB5 HLOW HN
  have hc3 : w3.cell? ⟨w2.heap.size, 3, none⟩ = some (.int .i64 lo) := (cell_of_row _ _ _ _ _ _ HROW3.out).trans rfl
  have hc4 : w3.cell? ⟨w2.heap.size, 4, none⟩ = some (.slice A1 sl.length c1) := (cell_of_row _ _ _ _ _ _ HROW3.out).trans rfl
  obtain ⟨tst, htst⟩ : ∃ tst, tst = (if decide (k = 0) = true then decide (lo = 0) else ltS last low) := ⟨_, rfl⟩
  rw [← htst] at hr2
  have hcase : (k = 0 ∧ ((k : Int) == 0) = true ∧ (lo == 0) = tst) ∨ (((k : Int) == 0) = false ∧ (0 : Int) < (k : Int) ∧ Op.bytesLess last.toList low.toList = tst) := by
    by_cases hk0 : k = 0
    · left
      rw [decide_eq_true hk0, if_pos rfl] at htst
      exact ⟨hk0, by simp [hk0], by rw [htst]; rfl⟩
    · right
      rw [decide_eq_false hk0, if_neg (by simp)] at htst
      exact ⟨by simp; omega, by omega, by rw [htst]; rfl⟩
  have HCASE := Lib.hid hcase
  clear hcase htst
  cases tst with
  | false =>
   have hr3 : r = none := by rw [HR.out, hr2]; simp
   have HR3 := Lib.hid hr3
   clear hr2 hr3
   rcases HCASE.out with ⟨x0, x1, x2⟩ | ⟨x1, x2, x3⟩
   all_goals
     try subst x0
     clear HCASE
     go_wp2_with (first
       | (go_at_call 90; refine (sound_no _).mono ?_; rintro e w4 ⟨rfl, hB7⟩))
     exact ⟨rfl, chainPost_none HR3.out ((HB1.out.next HB6.out).next hB7)⟩
  | true =>
  rw [Bool.true_and] at hr2
  have HR2 := Lib.hid hr2
  clear hr2
  have hpl := plainOf_len sl
  have hP13 : (plainOf sl).length ≤ 13 := by omega
  have HSL := Lib.hid (fun W hW => plain_any A1 c1 sl W hW (by omega))
  clear hpl hsl13
  generalize plainOf sl = P at HR2 hP13 HSL
  have HPOST : ∀ w4 v4, Hid (w4.ownsRow w3.heap.size 3 1 v4 P.length (ints P)) → Hid (Below w3.heap.size w3 w4) → True := fun _ _ _ _ => trivial
  clear HPOST
  rcases HCASE.out with ⟨x0, x1, x2⟩ | ⟨x1, x2, x3⟩
  all_goals
    clear HCASE
    try clear x0
    go_wp2_with (first
      | (go_at_call 90; refine (sound_yes _).mono ?_; rintro e w4 ⟨rfl, rfl⟩)
      | (go_at_call 91; refine (HSL.out _ HC3.out).mono ?_; rintro e w5 ⟨v5, rfl, hown5, hB8⟩; obtain ⟨A5, c5, rfl, hc5, hri5⟩ := own_cap hown5; have HRI5 := Lib.hid hri5; have HB8 := Lib.hid (HB6.out.next hB8); clear hown5 hB8 hri5))
    clear hc3 hc4 x1 x2
    try clear x3
    obtain ⟨wo, rfl⟩ : ∃ wo : World, wo = wr := ⟨_, rfl⟩
    go_loopw [4, 50] (fun s i wr => ∃ (j : Nat) (last2 : ByteArray), j ≤ P.length ∧ i = .int .i64 j ∧ s = .string last2 ∧ Hid (Below w5.heap.size w5 wr) ∧ Hid (slotsOk ws low true low P = slotsOk ws low (decide (j = 0)) last2 (P.drop j))) (fun _ i _ => P.length - (intOf i).toNat)
    case atStart => exact ⟨0, low, by omega, rfl, rfl, Lib.hid (Below.refl _ _), Lib.hid rfl⟩
    case round =>
      obtain ⟨j, last2, hj, rfl, rfl, HBj, HGj⟩ := hrel
      by_cases hltj : j < P.length
      rotate_left
      · obtain rfl : j = P.length := by omega
        have hs := HGj.out
        rw [List.drop_length] at hs
        simp only [slotsOk] at hs
        have hr4 : gb = leavesOk ws (decide (k + 1 = 0)) low (l.drop (k + 1)) := by rw [HR2.out, hs, Bool.true_and, decide_eq_false (by omega)]
        have HR4 := Lib.hid hr4
        have HBk := Lib.hid (HB8.out.next HBj.out)
        clear hs hr4 HR2
        go_wp2
        refine ⟨⟨k + 1, low, by omega, by go_num, rfl, HBk, HR4⟩, by simp [intOf]; omega⟩
      obtain ⟨ad5, s, hA5, _, hsk, hat5⟩ := (HRI5.out.below HBj.out).at_ hltj
      subst hA5
      have hg := HGj.out
      rw [dropK hsk] at hg
      simp only [slotsOk] at hg
      unfold slotOk at hg
      have HBt := Lib.hid ((HB1.out.next HB8.out).next HBj.out)
      have hrc := HRC.out s
      generalize recRead ws s = rr at hg hrc
      obtain ⟨⟨kind, key, val, ch⟩, er⟩ := rr
      simp only at hg hrc
      have HRC2 := Lib.hid hrc
      have HSK := Lib.hid hsk
      have HG2 := Lib.hid hg
      clear hsk hg hrc HGj
      go_upto_region 14 with (first | (go_at_call 44; refine (HRC2.out _ (Kd.C_below HC.out HBt.out)).mono ?_; rintro e w6 ⟨rfl, hB9⟩; have HB9 := Lib.hid hB9; clear hB9))
      have HB10 := Lib.hid (HB9.out.alloc HB9.out.size (.cells #[.int .i64 kind, .string key, .string val, .int .i64 ch] 62))
      have HB11 := Lib.hid (HBt.out.next HB10.out)
      have hr0 : (w6.alloc (.cells #[.int .i64 kind, .string key, .string val, .int .i64 ch] 62)).cell? ⟨w6.heap.size, 0, none⟩ = some (.int .i64 kind) := (cell_of_row _ _ _ _ _ _ (heap_alloc_new w6 _)).trans rfl
      have hr1 : (w6.alloc (.cells #[.int .i64 kind, .string key, .string val, .int .i64 ch] 62)).cell? ⟨w6.heap.size, 1, none⟩ = some (.string key) := (cell_of_row _ _ _ _ _ _ (heap_alloc_new w6 _)).trans rfl
      generalize (w6.alloc (.cells #[.int .i64 kind, .string key, .string val, .int .i64 ch] 62)) = W6 at hr0 hr1 HB10 HB11 ⊢
      clear hat5 HB9
      by_cases g1 : er = 0
      rotate_left
      · have hr3 : r = none := by rw [HR.out, HR2.out, HG2.out]; simp [g1]
        have HR3 := Lib.hid hr3
        have e1 := beq_f g1
        clear hr3 g1
        go_wp2_with (first | (go_at_call 90; refine (sound_no _).mono ?_; rintro e w7 ⟨rfl, hB10⟩))
        exact ⟨rfl, chainPost_none HR3.out (HB11.out.next hB10)⟩
      by_cases g2 : kind = 1
      rotate_left
      · have hr3 : r = none := by rw [HR.out, HR2.out, HG2.out]; simp [g2]
        have HR3 := Lib.hid hr3
        have e1 := beq_t g1
        have e2 := beq_f g2
        clear hr3 g1 g2
        go_wp2_with (first | (go_at_call 90; refine (sound_no _).mono ?_; rintro e w7 ⟨rfl, hB10⟩))
        exact ⟨rfl, chainPost_none HR3.out (HB11.out.next hB10)⟩
      cases g3 : ltS key low with
      | true =>
        have hr3 : r = none := by rw [HR.out, HR2.out, HG2.out, g3]; simp
        have HR3 := Lib.hid hr3
        have e1 := beq_t g1
        have e2 := beq_t g2
        have e3 := ltS_t g3
        clear hr3 g1 g2 g3
        go_wp2_with (first | (go_at_call 90; refine (sound_no _).mono ?_; rintro e w7 ⟨rfl, hB10⟩))
        exact ⟨rfl, chainPost_none HR3.out (HB11.out.next hB10)⟩
      | false =>
      have hg4 := HG2.out
      rw [g3, decide_eq_true g1, decide_eq_true g2] at hg4
      simp only [Bool.true_and, Bool.not_false] at hg4
      have HG4 := Lib.hid hg4
      have e1 := beq_t g1
      have e2 := beq_t g2
      have e3 := ltS_f g3
      clear hg4 g1 g2 g3 HG2
      by_cases g4 : j = 0
      · have hj0 : ((j : Int) == 0) = true := by simp [g4]
        have hg5 : slotsOk ws low true low P = slotsOk ws low (decide (j + 1 = 0)) (maxS last2 key) (P.drop (j + 1)) := by rw [HG4.out, decide_eq_true g4, decide_eq_false (by omega)]; rfl
        have HG5 := Lib.hid hg5
        clear hg5 HG4 g4
        go_wp2_with (first | (go_at_call 90; refine (sound_yes _).mono ?_; rintro e w7 ⟨rfl, rfl⟩))
        refine ⟨⟨j + 1, maxS last2 key, by omega, by go_num, rfl, Lib.hid (HBj.out.next HB10.out), HG5⟩, by simp [intOf]; omega⟩
      · have hj0 : ((j : Int) == 0) = false := by simp; omega
        cases g5 : ltS last2 key with
        | false =>
          have hr3 : r = none := by rw [HR.out, HR2.out, HG4.out, decide_eq_false g4, g5]; simp
          have HR3 := Lib.hid hr3
          have e4 := ltS_f g5
          clear hr3 g4 g5
          go_wp2_with (first | (go_at_call 90; refine (sound_no _).mono ?_; rintro e w7 ⟨rfl, hB10⟩))
          exact ⟨rfl, chainPost_none HR3.out (HB11.out.next hB10)⟩
        | true =>
          have hg5 : slotsOk ws low true low P = slotsOk ws low (decide (j + 1 = 0)) (maxS last2 key) (P.drop (j + 1)) := by rw [HG4.out, g5, Bool.or_true, Bool.true_and, decide_eq_false (show ¬ j + 1 = 0 by omega)]
          have HG5 := Lib.hid hg5
          have e4 := ltS_t g5
          clear hg5 HG4 g4 g5
          go_wp2_with (first | (go_at_call 90; refine (sound_yes _).mono ?_; rintro e w7 ⟨rfl, rfl⟩))
          refine ⟨⟨j + 1, maxS last2 key, by omega, by go_num, rfl, Lib.hid (HBj.out.next HB10.out), HG5⟩, by simp [intOf]; omega⟩
theorem checkSettled {tmps : Array Value} {W : World} {g : Nat} {x : Int} {R : Ending → World → Prop} {u : FrameMode} (hu : settle u = .returning) (h5 : tmps.getD 2 undef = .pointer (some ⟨g, 0, none⟩))
    (hc : W.cell? ⟨g, 0, none⟩ = some (.int .i64 x)) (h : R (.returned (.int .i64 x)) W) : Leaves Try.prog Try.f23 tmps R [] (settle u) W := by
 rw [hu]
 have hr : (results Try.f23 tmps).run Try.prog W = .ok (.int .i64 x) W := by
   rw [Array.getD_eq_getD_getElem?] at h5
   simp [results, Try.results23, h5, go_sem, hc]
 exact ⟨_, hr, h⟩
/-- Is an arena sound? -/
theorem check_any (A : Option Addr) (c : Nat) (ws : List Int) (w : World) (h : Kd.C (Kd.int .i64) w A ws.length ws) (hc : ws.length ≤ c) (hn : ws.length ≤ 1000000000) :
    Calls Try.prog 23 #[.slice A ws.length c] w fun e w' => e = .returned (.int .i64 (checkRead ws)) ∧ Below w.heap.size w w' := by
 have HC := Lib.hid h
 have HCH := Lib.hid (fun W hW => look_any A c ws W hW hc hn)
 clear h
 unfold checkRead
 generalize lookRead ws = r at HCH ⊢
 cases r with
 | none =>
  obtain ⟨ans, hans⟩ : ∃ ans : Int, ans = (if (none : Option (List Int)).isSome = true then 0 else 110) := ⟨_, rfl⟩
  rw [← hans]
  have HANS := Lib.hid (show ans = 110 from hans)
  clear hans
  go_enter_defers Try.func23, Try.ntmps23
  go_wp2_with (first
    | (go_at_call 51; refine (HCH.out _ (Kd.C_alloc HC.out _)).mono ?_; rintro e w1 ⟨rfl, hB1⟩))
  have hb : Below (w.heap.size + 1) (w.alloc (.cells #[.int .i64 0] 26)) w1 := by simpa using hB1
  have hrow := errCell hb
  refine leaves_cons (f := 48) (args := #[.pointer (some ⟨w.heap.size, 0, none⟩)]) (by simp) (by simp [go_sem]) ?_
  refine (told_panicking ⟨w.heap.size, 0, none⟩ 0 _ (cell_of_row _ _ 0 _ _ _ hrow) (frozen_of_row _ _ 0 _ _ hrow)).mono ?_
  rintro e u' w'' ⟨rfl, rfl, rfl⟩
  have hrow1 := (heap_setCell_same _ _ 0 _ _ (.int .i64 110) ((Below.heap_alloc w1 (.cells #[] 106) w.heap.size (by have := hb.size; simp at this; omega)).trans hrow)).trans rfl
  refine checkSettled rfl rfl (cell_of_row _ _ 0 _ _ _ hrow1) ?_
  rw [HANS.out]
  exact ⟨rfl, ((((Below.refl _ _).alloc (Nat.le_refl _) _).next hB1).alloc (by have := hb.size; simp at this; omega) _).setCell (p := ⟨w.heap.size, 0, none⟩) (Nat.le_refl _) _⟩
 | some l =>
  obtain ⟨ans, hans⟩ : ∃ ans : Int, ans = (if (some l).isSome = true then 0 else 110) := ⟨_, rfl⟩
  rw [← hans]
  have HANS := Lib.hid (show ans = 0 from hans)
  clear hans
  go_enter_defers Try.func23, Try.ntmps23
  go_wp2_with (first
    | (go_at_call 51; refine (HCH.out _ (Kd.C_alloc HC.out _)).mono ?_; rintro e w1 ⟨v, rfl, hown, hB1⟩; obtain ⟨hc2, hz2⟩ := ecell1 hB1; have HO := Lib.hid hown; have HB := Lib.hid hB1; clear hown hB1))
  have hb : Below (w.heap.size + 1) (w.alloc (.cells #[.int .i64 0] 26)) w1 := by simpa using HB.out
  have hrow := errCell hb
  refine leaves_cons (f := 48) (args := #[.pointer (some ⟨w.heap.size, 0, none⟩)]) (by simp) (by simp [go_sem]) ?_
  refine (told_idle ⟨w.heap.size, 0, none⟩ _).mono ?_
  rintro e u' w'' ⟨rfl, rfl, rfl⟩
  have hrow1 := (heap_setCell_same _ _ 0 _ _ (.int .i64 0) hrow).trans rfl
  refine checkSettled rfl rfl (cell_of_row _ _ 0 _ _ _ hrow1) ?_
  rw [HANS.out]
  exact ⟨rfl, (((Below.refl _ _).alloc (Nat.le_refl _) _).next HB.out).setCell (p := ⟨w.heap.size, 0, none⟩) (Nat.le_refl _) _⟩
end Go.Proofs.Ytliaemoomhfcdaa
