/- Written by this session's own program (hprint.py) with the help of the kit's print. Lean checks it. -/
import Derived.Test.YtliaemoomhfcdaaGreatMQ
import Derived.Test.YtliaemoomhfcdaaGreatAVx0
import Derived.Test.YtliaemoomhfcdaaGreatAVx1
import Derived.Test.YtliaemoomhfcdaaGreatGivenAV
namespace Go.Proofs.YtliaemoomhfcdaaGreat.AV
open Go.Proofs.YtliaemoomhfcdaaGreat.AV Go.Proofs.YtliaemoomhfcdaaGreat.AW Go.Proofs.YtliaemoomhfcdaaGreat.NR   -- OPENED
open Go.RowKit Go.Proofs.YtliaemoomhfcdaaGreatW.PrintWords Go.Proofs.YtliaemoomhfcdaaGreatW.PrintLast Go.Proofs.YtliaemoomhfcdaaGreatW.PrintMore
attribute [local go_sem] max2_int min2_int max_two min_two max_three min_three max_four min_four   -- for this text's walks alone
set_option linter.unusedVariables false
set_option linter.unusedSimpArgs false
noncomputable section

attribute [local go_sem high] eqA45
/-! ### lamplighterlaw12_awake: function 4 -/
def lamplighterlaw12_awake.f  : Option (Bool) := (arena_New.f 4).bind fun bt101 => (if (bt101.1.length : Int) = 64 then ((rec_Words.f 1 (⟨#[97]⟩ : ByteArray) (⟨#[98]⟩ : ByteArray) 0).bind fun bt105 => ((node_Words.f 0 0 0 0 (([2] : List Int))).bind fun bt112 => ((some (([] : List Int) : List Int)).bind fun y116 => (if 16 ≤ (bt101.1.length : Int) then ((some (bt101.1.take 16 : List Int)).bind fun y119 => (if y116.length + y119.length < 17592186044416 then ((some (y116 ++ y119 : List Int)).bind fun y123 => (if y123.length + bt112.1.length < 17592186044416 then ((some (y123 ++ bt112.1 : List Int)).bind fun y126 => (if y126.length + bt105.1.length < 17592186044416 then ((some (y126 ++ bt105.1 : List Int)).bind fun y129 => (if 48 ≤ (bt101.1.length : Int) then ((some (bt101.1.drop 48 : List Int)).bind fun y132 => (if y129.length + y132.length < 17592186044416 then ((some (y129 ++ y132 : List Int)).bind fun y136 => ((amap_Pairs.f y136).bind fun bt139 => ((amap_Own.f y136 1).bind fun bt143 => ((amap_Own.f y136 2).bind fun bt147 => ((amap_Pairs.f ([] : List Int)).bind fun bt151 => ((amap_Get.f bt139.1 (⟨#[97]⟩ : ByteArray)).bind fun bt155 => (if (bt139.1.length : Int) = 1 then (if 0 < (bt139.1.length : Int) then (if ((((rd_T45 bt139.1 0).f0).toList) == ([97] : List UInt8) && ((((rd_T45 bt139.1 0).f1).toList) == ([98] : List UInt8))) = true then (if bt139.2 = 0 then (if (bt143.1.length : Int) = 1 then (if bt143.2 = 0 then (if bt147.2 = 1 then (if bt151.2 = 110 then (if bt155.1.toList = ([98] : List UInt8) then (if bt155.2 = true then ((amap_Without.f bt139.1 (⟨#[97]⟩ : ByteArray)).bind fun t158 => (if (t158.length : Int) = 0 then ((amap_With.f bt139.1 (⟨#[99]⟩ : ByteArray) (⟨#[100]⟩ : ByteArray)).bind fun t161 => (some ((t161.length : Int) == 2))) else (none))) else (none)) else (none)) else (none)) else (none)) else (none)) else (none)) else (none)) else (none)) else (none)) else (none)))))))) else (none))) else (none))) else (none))) else (none))) else (none))) else (none))))) else (none))
def lamplighterlaw12_awake.T6 : Bool × List (List Nat × List Nat) := (true, [([], []), ([], []), ([1], [1]), ([0, 2], [0, 2]), ([], []), ([3, 4, 3], [3, 4]), ([], []), ([5, 6, 5], [5, 6]), ([], []), ([8], [8]), ([7, 9, 7], [7, 9]), ([10, 10, 0, 1, 2, 3, 4, 5, 6, 7, 8, 9, 10], [1, 8, 10])])
def lamplighterlaw12_awake.B6 : List Nat := [0, 0, 2, 7, 0, 31, 0, 127, 0, 256, 1023, 2047]
theorem lamplighterlaw12_awake.tab6 : rtab .any (opsOf Tryz.f4 6) = lamplighterlaw12_awake.T6 := by kernel_rfl
theorem lamplighterlaw12_awake.bits6 : waitsOk lamplighterlaw12_awake.T6.2 lamplighterlaw12_awake.B6 = true := by kernel_rfl
set_option maxHeartbeats 8000000 in
set_option maxRecDepth 100000 in
theorem lamplighterlaw12_awake.calls  (r : Bool) (w : World) (h : lamplighterlaw12_awake.f  = some r) :
    Calls Tryz.prog 4 #[] w fun e w' => e = .returned (.bool r) ∧ Below w.heap.size w w' := by
 have hu40 := Tryz.underlying40
 have hu43 := Tryz.underlying43
 have hu45 := Tryz.underlying45
 have HB := Aside0.mk (Below.refl w.heap.size w)
 have H : ((arena_New.f 4).bind fun bt101 => (if (bt101.1.length : Int) = 64 then ((rec_Words.f 1 (⟨#[97]⟩ : ByteArray) (⟨#[98]⟩ : ByteArray) 0).bind fun bt105 => ((node_Words.f 0 0 0 0 (([2] : List Int))).bind fun bt112 => ((some (([] : List Int) : List Int)).bind fun y116 => (if 16 ≤ (bt101.1.length : Int) then ((some (bt101.1.take 16 : List Int)).bind fun y119 => (if y116.length + y119.length < 17592186044416 then ((some (y116 ++ y119 : List Int)).bind fun y123 => (if y123.length + bt112.1.length < 17592186044416 then ((some (y123 ++ bt112.1 : List Int)).bind fun y126 => (if y126.length + bt105.1.length < 17592186044416 then ((some (y126 ++ bt105.1 : List Int)).bind fun y129 => (if 48 ≤ (bt101.1.length : Int) then ((some (bt101.1.drop 48 : List Int)).bind fun y132 => (if y129.length + y132.length < 17592186044416 then ((some (y129 ++ y132 : List Int)).bind fun y136 => ((amap_Pairs.f y136).bind fun bt139 => ((amap_Own.f y136 1).bind fun bt143 => ((amap_Own.f y136 2).bind fun bt147 => ((amap_Pairs.f ([] : List Int)).bind fun bt151 => ((amap_Get.f bt139.1 (⟨#[97]⟩ : ByteArray)).bind fun bt155 => (if (bt139.1.length : Int) = 1 then (if 0 < (bt139.1.length : Int) then (if ((((rd_T45 bt139.1 0).f0).toList) == ([97] : List UInt8) && ((((rd_T45 bt139.1 0).f1).toList) == ([98] : List UInt8))) = true then (if bt139.2 = 0 then (if (bt143.1.length : Int) = 1 then (if bt143.2 = 0 then (if bt147.2 = 1 then (if bt151.2 = 110 then (if bt155.1.toList = ([98] : List UInt8) then (if bt155.2 = true then ((amap_Without.f bt139.1 (⟨#[97]⟩ : ByteArray)).bind fun t158 => (if (t158.length : Int) = 0 then ((amap_With.f bt139.1 (⟨#[99]⟩ : ByteArray) (⟨#[100]⟩ : ByteArray)).bind fun t161 => (some ((t161.length : Int) == 2))) else (none))) else (none)) else (none)) else (none)) else (none)) else (none)) else (none)) else (none)) else (none)) else (none)) else (none)))))))) else (none))) else (none))) else (none))) else (none))) else (none))) else (none))))) else (none))) = some r := h
 clear h
 replace H := Option.bind_eq_some_iff.mp H
 obtain ⟨⟨t101, t102⟩, A10, H⟩ := H
 try dsimp only at H
 have A1 := Aside0.mk A10
 clear A10
 by_cases c2 : (t101.length : Int) = 64
 rw [if_pos c2] at H
 have c2b0 : ((t101.length : Int) == 64) = true := beq_iff_eq.mpr c2
 have c2b1 : ((t101.length : Int) != 64) = false := bne_eq_false_iff_eq.mpr c2
 clear c2
 replace H := Option.bind_eq_some_iff.mp H
 obtain ⟨⟨tv1, tv2⟩, Av1, H⟩ := H
 try dsimp only at H
 have Av2 := Aside0.mk Av1
 clear Av1
 obtain ⟨yv1, hyv1⟩ : ∃ y_ : List Int, y_ = (([2] : List Int)) := ⟨_, rfl⟩
 replace H : ((node_Words.f 0 0 0 0 yv1).bind fun bt112 => ((some (([] : List Int) : List Int)).bind fun y116 => (if 16 ≤ (t101.length : Int) then ((some (t101.take 16 : List Int)).bind fun y119 => (if y116.length + y119.length < 17592186044416 then ((some (y116 ++ y119 : List Int)).bind fun y123 => (if y123.length + bt112.1.length < 17592186044416 then ((some (y123 ++ bt112.1 : List Int)).bind fun y126 => (if y126.length + tv1.length < 17592186044416 then ((some (y126 ++ tv1 : List Int)).bind fun y129 => (if 48 ≤ (t101.length : Int) then ((some (t101.drop 48 : List Int)).bind fun y132 => (if y129.length + y132.length < 17592186044416 then ((some (y129 ++ y132 : List Int)).bind fun y136 => ((amap_Pairs.f y136).bind fun bt139 => ((amap_Own.f y136 1).bind fun bt143 => ((amap_Own.f y136 2).bind fun bt147 => ((amap_Pairs.f ([] : List Int)).bind fun bt151 => ((amap_Get.f bt139.1 (⟨#[97]⟩ : ByteArray)).bind fun bt155 => (if (bt139.1.length : Int) = 1 then (if 0 < (bt139.1.length : Int) then (if ((((rd_T45 bt139.1 0).f0).toList) == ([97] : List UInt8) && ((((rd_T45 bt139.1 0).f1).toList) == ([98] : List UInt8))) = true then (if bt139.2 = 0 then (if (bt143.1.length : Int) = 1 then (if bt143.2 = 0 then (if bt147.2 = 1 then (if bt151.2 = 110 then (if bt155.1.toList = ([98] : List UInt8) then (if bt155.2 = true then ((amap_Without.f bt139.1 (⟨#[97]⟩ : ByteArray)).bind fun t158 => (if (t158.length : Int) = 0 then ((amap_With.f bt139.1 (⟨#[99]⟩ : ByteArray) (⟨#[100]⟩ : ByteArray)).bind fun t161 => (some ((t161.length : Int) == 2))) else (none))) else (none)) else (none)) else (none)) else (none)) else (none)) else (none)) else (none)) else (none)) else (none)) else (none)))))))) else (none))) else (none))) else (none))) else (none))) else (none))) else (none)))) = some r := by first | (rw [hyv1]; with_reducible exact H) | (have H2_ := (Option.bind_some _ _).symm.trans H; rw [hyv1]; with_reducible exact H2_) | (have H2_ := (Option.bind_some _ _).symm.trans H; with_reducible exact H2_) | with_reducible exact H | (rw [hyv1]; exact H) | exact H
 have Nyv1 := Aside0.mk hyv1
 clear hyv1
 replace H := Option.bind_eq_some_iff.mp H
 obtain ⟨⟨tv3, tv4⟩, Av3, H⟩ := H
 try dsimp only at H
 have Av4 := Aside0.mk Av3
 clear Av3
 obtain ⟨y116, hyv2⟩ : ∃ y_ : List Int, y_ = (([] : List Int)) := ⟨_, rfl⟩
 replace H : (if 16 ≤ (t101.length : Int) then ((some (t101.take 16 : List Int)).bind fun y119 => (if y116.length + y119.length < 17592186044416 then ((some (y116 ++ y119 : List Int)).bind fun y123 => (if y123.length + tv3.length < 17592186044416 then ((some (y123 ++ tv3 : List Int)).bind fun y126 => (if y126.length + tv1.length < 17592186044416 then ((some (y126 ++ tv1 : List Int)).bind fun y129 => (if 48 ≤ (t101.length : Int) then ((some (t101.drop 48 : List Int)).bind fun y132 => (if y129.length + y132.length < 17592186044416 then ((some (y129 ++ y132 : List Int)).bind fun y136 => ((amap_Pairs.f y136).bind fun bt139 => ((amap_Own.f y136 1).bind fun bt143 => ((amap_Own.f y136 2).bind fun bt147 => ((amap_Pairs.f ([] : List Int)).bind fun bt151 => ((amap_Get.f bt139.1 (⟨#[97]⟩ : ByteArray)).bind fun bt155 => (if (bt139.1.length : Int) = 1 then (if 0 < (bt139.1.length : Int) then (if ((((rd_T45 bt139.1 0).f0).toList) == ([97] : List UInt8) && ((((rd_T45 bt139.1 0).f1).toList) == ([98] : List UInt8))) = true then (if bt139.2 = 0 then (if (bt143.1.length : Int) = 1 then (if bt143.2 = 0 then (if bt147.2 = 1 then (if bt151.2 = 110 then (if bt155.1.toList = ([98] : List UInt8) then (if bt155.2 = true then ((amap_Without.f bt139.1 (⟨#[97]⟩ : ByteArray)).bind fun t158 => (if (t158.length : Int) = 0 then ((amap_With.f bt139.1 (⟨#[99]⟩ : ByteArray) (⟨#[100]⟩ : ByteArray)).bind fun t161 => (some ((t161.length : Int) == 2))) else (none))) else (none)) else (none)) else (none)) else (none)) else (none)) else (none)) else (none)) else (none)) else (none)) else (none)))))))) else (none))) else (none))) else (none))) else (none))) else (none))) else (none)) = some r := by first | (rw [hyv2]; with_reducible exact H) | (have H2_ := (Option.bind_some _ _).symm.trans H; rw [hyv2]; with_reducible exact H2_) | (have H2_ := (Option.bind_some _ _).symm.trans H; with_reducible exact H2_) | with_reducible exact H | (rw [hyv2]; exact H) | exact H
 have Nyv2 := Aside0.mk hyv2
 clear hyv2
 by_cases cv1 : 16 ≤ (t101.length : Int)
 rw [if_pos cv1] at H
 have c5b0 := eq_true cv1
 have c5b1 : decide (16 ≤ (t101.length : Int)) = true := decide_eq_true cv1
 clear cv1
 obtain ⟨y119, hyv3⟩ : ∃ y_ : List Int, y_ = (t101.take 16) := ⟨_, rfl⟩
 replace H : (if y116.length + y119.length < 17592186044416 then ((some (y116 ++ y119 : List Int)).bind fun y123 => (if y123.length + tv3.length < 17592186044416 then ((some (y123 ++ tv3 : List Int)).bind fun y126 => (if y126.length + tv1.length < 17592186044416 then ((some (y126 ++ tv1 : List Int)).bind fun y129 => (if 48 ≤ (t101.length : Int) then ((some (t101.drop 48 : List Int)).bind fun y132 => (if y129.length + y132.length < 17592186044416 then ((some (y129 ++ y132 : List Int)).bind fun y136 => ((amap_Pairs.f y136).bind fun bt139 => ((amap_Own.f y136 1).bind fun bt143 => ((amap_Own.f y136 2).bind fun bt147 => ((amap_Pairs.f ([] : List Int)).bind fun bt151 => ((amap_Get.f bt139.1 (⟨#[97]⟩ : ByteArray)).bind fun bt155 => (if (bt139.1.length : Int) = 1 then (if 0 < (bt139.1.length : Int) then (if ((((rd_T45 bt139.1 0).f0).toList) == ([97] : List UInt8) && ((((rd_T45 bt139.1 0).f1).toList) == ([98] : List UInt8))) = true then (if bt139.2 = 0 then (if (bt143.1.length : Int) = 1 then (if bt143.2 = 0 then (if bt147.2 = 1 then (if bt151.2 = 110 then (if bt155.1.toList = ([98] : List UInt8) then (if bt155.2 = true then ((amap_Without.f bt139.1 (⟨#[97]⟩ : ByteArray)).bind fun t158 => (if (t158.length : Int) = 0 then ((amap_With.f bt139.1 (⟨#[99]⟩ : ByteArray) (⟨#[100]⟩ : ByteArray)).bind fun t161 => (some ((t161.length : Int) == 2))) else (none))) else (none)) else (none)) else (none)) else (none)) else (none)) else (none)) else (none)) else (none)) else (none)) else (none)))))))) else (none))) else (none))) else (none))) else (none))) else (none)) = some r := by first | (rw [hyv3]; with_reducible exact H) | (have H2_ := (Option.bind_some _ _).symm.trans H; rw [hyv3]; with_reducible exact H2_) | (have H2_ := (Option.bind_some _ _).symm.trans H; with_reducible exact H2_) | with_reducible exact H | (rw [hyv3]; exact H) | exact H
 have Nyv3 := Aside0.mk hyv3
 clear hyv3
 by_cases cv2 : y116.length + y119.length < 17592186044416
 rw [if_pos cv2] at H
 have LMcv1 := Aside0.mk cv2
 clear cv2
 obtain ⟨y123, hyv4⟩ : ∃ y_ : List Int, y_ = (y116 ++ y119) := ⟨_, rfl⟩
 replace H : (if y123.length + tv3.length < 17592186044416 then ((some (y123 ++ tv3 : List Int)).bind fun y126 => (if y126.length + tv1.length < 17592186044416 then ((some (y126 ++ tv1 : List Int)).bind fun y129 => (if 48 ≤ (t101.length : Int) then ((some (t101.drop 48 : List Int)).bind fun y132 => (if y129.length + y132.length < 17592186044416 then ((some (y129 ++ y132 : List Int)).bind fun y136 => ((amap_Pairs.f y136).bind fun bt139 => ((amap_Own.f y136 1).bind fun bt143 => ((amap_Own.f y136 2).bind fun bt147 => ((amap_Pairs.f ([] : List Int)).bind fun bt151 => ((amap_Get.f bt139.1 (⟨#[97]⟩ : ByteArray)).bind fun bt155 => (if (bt139.1.length : Int) = 1 then (if 0 < (bt139.1.length : Int) then (if ((((rd_T45 bt139.1 0).f0).toList) == ([97] : List UInt8) && ((((rd_T45 bt139.1 0).f1).toList) == ([98] : List UInt8))) = true then (if bt139.2 = 0 then (if (bt143.1.length : Int) = 1 then (if bt143.2 = 0 then (if bt147.2 = 1 then (if bt151.2 = 110 then (if bt155.1.toList = ([98] : List UInt8) then (if bt155.2 = true then ((amap_Without.f bt139.1 (⟨#[97]⟩ : ByteArray)).bind fun t158 => (if (t158.length : Int) = 0 then ((amap_With.f bt139.1 (⟨#[99]⟩ : ByteArray) (⟨#[100]⟩ : ByteArray)).bind fun t161 => (some ((t161.length : Int) == 2))) else (none))) else (none)) else (none)) else (none)) else (none)) else (none)) else (none)) else (none)) else (none)) else (none)) else (none)))))))) else (none))) else (none))) else (none))) else (none)) = some r := by first | (rw [hyv4]; with_reducible exact H) | (have H2_ := (Option.bind_some _ _).symm.trans H; rw [hyv4]; with_reducible exact H2_) | (have H2_ := (Option.bind_some _ _).symm.trans H; with_reducible exact H2_) | with_reducible exact H | (rw [hyv4]; exact H) | exact H
 have Nyv4 := Aside0.mk hyv4
 clear hyv4
 by_cases cv3 : y123.length + tv3.length < 17592186044416
 rw [if_pos cv3] at H
 have LMcv2 := Aside0.mk cv3
 clear cv3
 obtain ⟨y126, hyv5⟩ : ∃ y_ : List Int, y_ = (y123 ++ tv3) := ⟨_, rfl⟩
 replace H : (if y126.length + tv1.length < 17592186044416 then ((some (y126 ++ tv1 : List Int)).bind fun y129 => (if 48 ≤ (t101.length : Int) then ((some (t101.drop 48 : List Int)).bind fun y132 => (if y129.length + y132.length < 17592186044416 then ((some (y129 ++ y132 : List Int)).bind fun y136 => ((amap_Pairs.f y136).bind fun bt139 => ((amap_Own.f y136 1).bind fun bt143 => ((amap_Own.f y136 2).bind fun bt147 => ((amap_Pairs.f ([] : List Int)).bind fun bt151 => ((amap_Get.f bt139.1 (⟨#[97]⟩ : ByteArray)).bind fun bt155 => (if (bt139.1.length : Int) = 1 then (if 0 < (bt139.1.length : Int) then (if ((((rd_T45 bt139.1 0).f0).toList) == ([97] : List UInt8) && ((((rd_T45 bt139.1 0).f1).toList) == ([98] : List UInt8))) = true then (if bt139.2 = 0 then (if (bt143.1.length : Int) = 1 then (if bt143.2 = 0 then (if bt147.2 = 1 then (if bt151.2 = 110 then (if bt155.1.toList = ([98] : List UInt8) then (if bt155.2 = true then ((amap_Without.f bt139.1 (⟨#[97]⟩ : ByteArray)).bind fun t158 => (if (t158.length : Int) = 0 then ((amap_With.f bt139.1 (⟨#[99]⟩ : ByteArray) (⟨#[100]⟩ : ByteArray)).bind fun t161 => (some ((t161.length : Int) == 2))) else (none))) else (none)) else (none)) else (none)) else (none)) else (none)) else (none)) else (none)) else (none)) else (none)) else (none)))))))) else (none))) else (none))) else (none)) = some r := by first | (rw [hyv5]; with_reducible exact H) | (have H2_ := (Option.bind_some _ _).symm.trans H; rw [hyv5]; with_reducible exact H2_) | (have H2_ := (Option.bind_some _ _).symm.trans H; with_reducible exact H2_) | with_reducible exact H | (rw [hyv5]; exact H) | exact H
 have Nyv5 := Aside0.mk hyv5
 clear hyv5
 by_cases cv4 : y126.length + tv1.length < 17592186044416
 rw [if_pos cv4] at H
 have LMcv3 := Aside0.mk cv4
 clear cv4
 obtain ⟨y129, hyv6⟩ : ∃ y_ : List Int, y_ = (y126 ++ tv1) := ⟨_, rfl⟩
 replace H : (if 48 ≤ (t101.length : Int) then ((some (t101.drop 48 : List Int)).bind fun y132 => (if y129.length + y132.length < 17592186044416 then ((some (y129 ++ y132 : List Int)).bind fun y136 => ((amap_Pairs.f y136).bind fun bt139 => ((amap_Own.f y136 1).bind fun bt143 => ((amap_Own.f y136 2).bind fun bt147 => ((amap_Pairs.f ([] : List Int)).bind fun bt151 => ((amap_Get.f bt139.1 (⟨#[97]⟩ : ByteArray)).bind fun bt155 => (if (bt139.1.length : Int) = 1 then (if 0 < (bt139.1.length : Int) then (if ((((rd_T45 bt139.1 0).f0).toList) == ([97] : List UInt8) && ((((rd_T45 bt139.1 0).f1).toList) == ([98] : List UInt8))) = true then (if bt139.2 = 0 then (if (bt143.1.length : Int) = 1 then (if bt143.2 = 0 then (if bt147.2 = 1 then (if bt151.2 = 110 then (if bt155.1.toList = ([98] : List UInt8) then (if bt155.2 = true then ((amap_Without.f bt139.1 (⟨#[97]⟩ : ByteArray)).bind fun t158 => (if (t158.length : Int) = 0 then ((amap_With.f bt139.1 (⟨#[99]⟩ : ByteArray) (⟨#[100]⟩ : ByteArray)).bind fun t161 => (some ((t161.length : Int) == 2))) else (none))) else (none)) else (none)) else (none)) else (none)) else (none)) else (none)) else (none)) else (none)) else (none)) else (none)))))))) else (none))) else (none)) = some r := by first | (rw [hyv6]; with_reducible exact H) | (have H2_ := (Option.bind_some _ _).symm.trans H; rw [hyv6]; with_reducible exact H2_) | (have H2_ := (Option.bind_some _ _).symm.trans H; with_reducible exact H2_) | with_reducible exact H | (rw [hyv6]; exact H) | exact H
 have Nyv6 := Aside0.mk hyv6
 clear hyv6
 by_cases cv5 : 48 ≤ (t101.length : Int)
 rw [if_pos cv5] at H
 have c9b0 := eq_true cv5
 have c9b1 : decide (48 ≤ (t101.length : Int)) = true := decide_eq_true cv5
 clear cv5
 obtain ⟨y132, hyv7⟩ : ∃ y_ : List Int, y_ = (t101.drop 48) := ⟨_, rfl⟩
 replace H : (if y129.length + y132.length < 17592186044416 then ((some (y129 ++ y132 : List Int)).bind fun y136 => ((amap_Pairs.f y136).bind fun bt139 => ((amap_Own.f y136 1).bind fun bt143 => ((amap_Own.f y136 2).bind fun bt147 => ((amap_Pairs.f ([] : List Int)).bind fun bt151 => ((amap_Get.f bt139.1 (⟨#[97]⟩ : ByteArray)).bind fun bt155 => (if (bt139.1.length : Int) = 1 then (if 0 < (bt139.1.length : Int) then (if ((((rd_T45 bt139.1 0).f0).toList) == ([97] : List UInt8) && ((((rd_T45 bt139.1 0).f1).toList) == ([98] : List UInt8))) = true then (if bt139.2 = 0 then (if (bt143.1.length : Int) = 1 then (if bt143.2 = 0 then (if bt147.2 = 1 then (if bt151.2 = 110 then (if bt155.1.toList = ([98] : List UInt8) then (if bt155.2 = true then ((amap_Without.f bt139.1 (⟨#[97]⟩ : ByteArray)).bind fun t158 => (if (t158.length : Int) = 0 then ((amap_With.f bt139.1 (⟨#[99]⟩ : ByteArray) (⟨#[100]⟩ : ByteArray)).bind fun t161 => (some ((t161.length : Int) == 2))) else (none))) else (none)) else (none)) else (none)) else (none)) else (none)) else (none)) else (none)) else (none)) else (none)) else (none)))))))) else (none)) = some r := by first | (rw [hyv7]; with_reducible exact H) | (have H2_ := (Option.bind_some _ _).symm.trans H; rw [hyv7]; with_reducible exact H2_) | (have H2_ := (Option.bind_some _ _).symm.trans H; with_reducible exact H2_) | with_reducible exact H | (rw [hyv7]; exact H) | exact H
 have Nyv7 := Aside0.mk hyv7
 clear hyv7
 by_cases cv6 : y129.length + y132.length < 17592186044416
 rw [if_pos cv6] at H
 have LMcv4 := Aside0.mk cv6
 clear cv6
 obtain ⟨y136, hyv8⟩ : ∃ y_ : List Int, y_ = (y129 ++ y132) := ⟨_, rfl⟩
 replace H : ((amap_Pairs.f y136).bind fun bt139 => ((amap_Own.f y136 1).bind fun bt143 => ((amap_Own.f y136 2).bind fun bt147 => ((amap_Pairs.f ([] : List Int)).bind fun bt151 => ((amap_Get.f bt139.1 (⟨#[97]⟩ : ByteArray)).bind fun bt155 => (if (bt139.1.length : Int) = 1 then (if 0 < (bt139.1.length : Int) then (if ((((rd_T45 bt139.1 0).f0).toList) == ([97] : List UInt8) && ((((rd_T45 bt139.1 0).f1).toList) == ([98] : List UInt8))) = true then (if bt139.2 = 0 then (if (bt143.1.length : Int) = 1 then (if bt143.2 = 0 then (if bt147.2 = 1 then (if bt151.2 = 110 then (if bt155.1.toList = ([98] : List UInt8) then (if bt155.2 = true then ((amap_Without.f bt139.1 (⟨#[97]⟩ : ByteArray)).bind fun t158 => (if (t158.length : Int) = 0 then ((amap_With.f bt139.1 (⟨#[99]⟩ : ByteArray) (⟨#[100]⟩ : ByteArray)).bind fun t161 => (some ((t161.length : Int) == 2))) else (none))) else (none)) else (none)) else (none)) else (none)) else (none)) else (none)) else (none)) else (none)) else (none)) else (none))))))) = some r := by first | (rw [hyv8]; with_reducible exact H) | (have H2_ := (Option.bind_some _ _).symm.trans H; rw [hyv8]; with_reducible exact H2_) | (have H2_ := (Option.bind_some _ _).symm.trans H; with_reducible exact H2_) | with_reducible exact H | (rw [hyv8]; exact H) | exact H
 have Nyv8 := Aside0.mk hyv8
 clear hyv8
 replace H := Option.bind_eq_some_iff.mp H
 obtain ⟨⟨tv5, tv6⟩, Av5, H⟩ := H
 try dsimp only at H
 have Av6 := Aside0.mk Av5
 clear Av5
 replace H := Option.bind_eq_some_iff.mp H
 obtain ⟨⟨tv7, tv8⟩, Av7, H⟩ := H
 try dsimp only at H
 have Av8 := Aside0.mk Av7
 clear Av7
 replace H := Option.bind_eq_some_iff.mp H
 obtain ⟨⟨tv9, tv10⟩, Av9, H⟩ := H
 try dsimp only at H
 have Av10 := Aside0.mk Av9
 clear Av9
 replace H := Option.bind_eq_some_iff.mp H
 obtain ⟨⟨tv11, tv12⟩, Av11, H⟩ := H
 try dsimp only at H
 have Av12 := Aside0.mk Av11
 clear Av11
 replace H := Option.bind_eq_some_iff.mp H
 obtain ⟨⟨tv13, tv14⟩, Av13, H⟩ := H
 try dsimp only at H
 have Av14 := Aside0.mk Av13
 clear Av13
 by_cases cv7 : (tv5.length : Int) = 1
 rw [if_pos cv7] at H
 have c16b0 : ((tv5.length : Int) == 1) = true := beq_iff_eq.mpr cv7
 have c16b1 : ((tv5.length : Int) != 1) = false := bne_eq_false_iff_eq.mpr cv7
 clear cv7
 by_cases cv8 : 0 < (tv5.length : Int)
 rw [if_pos cv8] at H
 have c17b0 : decide (0 < (tv5.length : Int)) = true := decide_eq_true cv8
 have c17b1 : decide (0 < tv5.length) = true := decide_eq_true (by omega)
 clear cv8
 by_cases cv9 : ((((rd_T45 tv5 0).f0).toList) == ([97] : List UInt8) && ((((rd_T45 tv5 0).f1).toList) == ([98] : List UInt8))) = true
 rw [if_pos cv9] at H
 have c18b0 : ((((rd_T45 tv5 0).f0).toList) == ([97] : List UInt8) && ((((rd_T45 tv5 0).f1).toList) == ([98] : List UInt8))) = true := cv9
 (try (have c18b1 : decide ((((rd_T45 tv5 0).f0).toList) = ([97] : List UInt8) && ((((rd_T45 tv5 0).f1).toList) == ([98] : List UInt8))) = true := by simpa using cv9))
 (try (have c18b2 : ((((rd_T45 tv5 0).f0).toList) == ([97] : List UInt8) && ((((rd_T45 tv5 0).f1).toList) == ([98] : List UInt8))) = true := by simpa using cv9))
 clear cv9
 by_cases cv10 : tv6 = 0
 rw [if_pos cv10] at H
 have c19b0 : (tv6 == 0) = true := beq_iff_eq.mpr cv10
 have c19b1 : (tv6 != 0) = false := bne_eq_false_iff_eq.mpr cv10
 clear cv10
 by_cases cv11 : (tv7.length : Int) = 1
 rw [if_pos cv11] at H
 have c20b0 : ((tv7.length : Int) == 1) = true := beq_iff_eq.mpr cv11
 have c20b1 : ((tv7.length : Int) != 1) = false := bne_eq_false_iff_eq.mpr cv11
 clear cv11
 by_cases cv12 : tv8 = 0
 rw [if_pos cv12] at H
 have c21b0 : (tv8 == 0) = true := beq_iff_eq.mpr cv12
 have c21b1 : (tv8 != 0) = false := bne_eq_false_iff_eq.mpr cv12
 clear cv12
 by_cases cv13 : tv10 = 1
 rw [if_pos cv13] at H
 have c22b0 : (tv10 == 1) = true := beq_iff_eq.mpr cv13
 have c22b1 : (tv10 != 1) = false := bne_eq_false_iff_eq.mpr cv13
 clear cv13
 by_cases cv14 : tv12 = 110
 rw [if_pos cv14] at H
 have c23b0 : (tv12 == 110) = true := beq_iff_eq.mpr cv14
 have c23b1 : (tv12 != 110) = false := bne_eq_false_iff_eq.mpr cv14
 clear cv14
 by_cases cv15 : tv13.toList = ([98] : List UInt8)
 rw [if_pos cv15] at H
 have c24b0 : (tv13.toList == ([98] : List UInt8)) = true := beq_iff_eq.mpr cv15
 have c24b1 : (tv13.toList != ([98] : List UInt8)) = false := bne_eq_false_iff_eq.mpr cv15
 clear cv15
 by_cases cv16 : tv14 = true
 subst cv16
 have Hv1 : ((amap_Without.f tv5 (⟨#[97]⟩ : ByteArray)).bind fun t158 => (if (t158.length : Int) = 0 then ((amap_With.f tv5 (⟨#[99]⟩ : ByteArray) (⟨#[100]⟩ : ByteArray)).bind fun t161 => (some ((t161.length : Int) == 2))) else (none))) = some r := by rw [if_pos rfl] at H; exact H
 clear H
 have H := Hv1
 clear Hv1
 replace H := Option.bind_eq_some_iff.mp H
 obtain ⟨t158, Av15, H⟩ := H
 try dsimp only at H
 have Av16 := Aside0.mk Av15
 clear Av15
 by_cases cv17 : (t158.length : Int) = 0
 · rw [if_pos cv17] at H
   have c27b0 : ((t158.length : Int) == 0) = true := beq_iff_eq.mpr cv17
   have c27b1 : ((t158.length : Int) != 0) = false := bne_eq_false_iff_eq.mpr cv17
   clear cv17
   replace H := Option.bind_eq_some_iff.mp H
   obtain ⟨t161, Av17, H⟩ := H
   replace H : (some ((t161.length : Int) == 2)) = some r := H
   have Av18 := Aside0.mk Av17
   clear Av17
   obtain rfl := Option.some.inj H
   go_enter Tryz.func4, Tryz.ntmps4
   try go_wp2_with (first | ((with_reducible refine gate_callee (f := 17) rfl ?_); refine goesL_ (some 18) rfl rfl Tryz.func17 (by kernel_rfl) rfl #[.int .i64 4] rfl qm_ ?_; (with_reducible refine (arena_New.calls 4 t101 t102 _ A1.out).mono ?_); rintro e wv1 ⟨vv1, rfl, hov1, hb⟩; refine ⟨_, rfl, ?_⟩; have n0_ := Aside0.mk (Kd.R_lower hov1 (below_size qh_)); have n1_ := Aside0.mk (below_step qh_ hb); clear HB; have HOv1 := n0_; have HB := n1_; clear n0_ n1_; (try clear hb); (try clear hbv1); (try clear hk); (try clear hi); (try clear hov1); obtain ⟨Aov1, cov1, eov1⟩ := Kd.R_slice HOv1.out; subst eov1) | ((with_reducible refine gate_callee (f := 18) rfl ?_); refine goesL_ (some 26) rfl rfl Tryz.func18 (by kernel_rfl) rfl #[.agg #[.int .i64 1, .string (⟨#[97]⟩ : ByteArray), .string (⟨#[98]⟩ : ByteArray), .int .i64 0]] rfl qm_ ?_; (with_reducible refine (rec_Words.calls 1 (⟨#[97]⟩ : ByteArray) (⟨#[98]⟩ : ByteArray) 0 tv1 tv2 _ Av2.out).mono ?_); rintro e wv2 ⟨vv2, rfl, hov1, hb⟩; refine ⟨_, rfl, ?_⟩; have n0_ := Aside0.mk (Kd.R_below (qr_ HOv1.out) hb); have n1_ := Aside0.mk (Kd.V_lower (Kd.V_mono (ok' := fun k_ => some k_ ≠ (.slice Aov1 t101.length cov1 : Value).ownBlock) hov1 (fun k_ hk_ => (Kd.fresh' (Kd.R_lt (qr_ HOv1.out)) k_ hk_))) (below_size qh_)); have n2_ := Aside0.mk (below_step qh_ hb); clear HOv1; clear HB; have HOv1 := n0_; have HOv2 := n1_; have HB := n2_; clear n0_ n1_ n2_; (try clear hb); (try clear hbv1); (try clear hk); (try clear hi); (try clear hov1)) | ((with_reducible refine gate_dst (N := 30) rfl ?_); (try (refine gate_guard (by rfl) ?_; dsimp only)); refine Kd.R_lit (Kd.int .i64) _ 3 ?hg (N := 30) ?hd (xs := ([2] : List Int)) (inner := [.int .i64 2]) (ok := fun _ => True) (okp := fun _ => True) ?hr ?hp (fun _ hk => hk) trivial (Below.refl _ _) (Nat.le_refl _) (by simp) ?_; (case hd => rfl); (case hg => rfl); (case hr => first | (go_simp; done) | (go_simp; rfl)); (case hp => exact (Reps.one (show Kd.M (Kd.int .i64) _ _ _ 2 [.int .i64 2] from rfl) (Reps.none _ _))); intro vv3 wv3 hov2 hb hg_ hnew_; clear hg_ hnew_; (first | rw [← Nyv1.out] at hov2 | (simp only [Int.reduceToNat] at hov2; rw [← Nyv1.out] at hov2)); have n0_ := Aside0.mk (Kd.R_elder' (qr_ HOv1.out) (Kd.R_base hov2) hb); have n1_ := Aside0.mk (Kd.V_elder' (by (with_reducible repeat (first | apply Kd.V_alloc | apply Kd.V_drewN | apply Kd.V_drew)); exact HOv2.out) (Kd.R_base hov2) hb); have n2_ := Aside0.mk (Kd.R_lower (Kd.R_new' hov2 (Kd.R_lt (qr_ HOv1.out))) (below_size qh_)); have n3_ := Aside0.mk (below_step qh_ hb); clear HOv1; clear HOv2; clear HB; have HOv1 := n0_; have HOv2 := n1_; have HOv3 := n2_; have HB := n3_; clear n0_ n1_ n2_ n3_; clear hb hov2; obtain ⟨Aov2, cov2, eov2⟩ := Kd.R_slice HOv3.out; subst eov2) | ((with_reducible refine gate_callee (f := 19) rfl ?_); refine goesL_ (some 32) rfl rfl Tryz.func19 (by kernel_rfl) rfl #[.agg #[.int .i64 0, .int .i64 0, .int .i64 0, .int .i64 0, .slice Aov2 yv1.length cov2]] rfl qm_ ?_; (with_reducible refine (node_Words.calls 0 0 0 0 _ _ yv1 tv3 tv4 _ ?side1 ?side2 Av4.out).mono ?_); (case side1 => repeat (first | exact (Kd.R_reads' HOv3.out).2.2 | (with_reducible refine Kd.C_alloc ?_ _) | (with_reducible refine Kd.C_drewN ?_ _) | (with_reducible refine Kd.C_drew ?_))); (case side2 => exact (Kd.R_reads' HOv3.out).2.1); rintro e wv4 ⟨vv4, rfl, hov1, hb⟩; refine ⟨_, rfl, ?_⟩; have n0_ := Aside0.mk (Kd.R_elder' (qr_ HOv1.out) (Kd.R_base hov1) hb); have n1_ := Aside0.mk (Kd.V_elder' (by (with_reducible repeat (first | apply Kd.V_alloc | apply Kd.V_drewN | apply Kd.V_drew)); exact HOv2.out) (Kd.R_base hov1) hb); have n2_ := Aside0.mk (Kd.R_elder' (qr_ HOv3.out) (Kd.R_base hov1) hb); have n3_ := Aside0.mk (Kd.R_lower (Kd.R_new' (Kd.R_new' hov1 (Kd.R_lt (qr_ HOv1.out))) (Kd.R_lt (qr_ HOv3.out))) (below_size qh_)); have n4_ := Aside0.mk (below_step qh_ hb); clear HOv1; clear HOv2; clear HOv3; clear HB; have HOv1 := n0_; have HOv2 := n1_; have HOv3 := n2_; have HOv4 := n3_; have HB := n4_; clear n0_ n1_ n2_ n3_ n4_; (try clear hb); (try clear hbv1); (try clear hk); (try clear hi); (try clear hov1)))
   have n0_ := Aside0.mk (Kd.R_drew HOv1.out)
   have n1_ := Aside0.mk (Kd.V_drew HOv2.out)
   have n2_ := Aside0.mk (Kd.R_drew HOv3.out)
   have n3_ := Aside0.mk (Kd.R_drew HOv4.out)
   have n4_ := Aside0.mk (below_drew1 HB.out)
   clear HOv1
   clear HOv2
   clear HOv3
   clear HOv4
   clear HB
   have HOv1 := n0_
   have HOv2 := n1_
   have HOv3 := n2_
   have HOv4 := n3_
   have HB := n4_
   clear n0_ n1_ n2_ n3_ n4_
   have qv1 : (16 : Int) ≤ ((t101.length : Int) : Int) := of_decide_eq_true (by first | (with_reducible assumption) | assumption)
   obtain ⟨iv1, hiv1, _, hszv1, _⟩ := info_parts info3
   have hroomv1 : t101.length ≤ cov1 := (Kd.R_reads' HOv1.out).2.1
   have hCv1 : Kd.C (Kd.int .i64) _ Aov1 t101.length t101 := (Kd.R_reads' HOv1.out).2.2
   have hcutv1 := cut_to (P := Tryz.prog) 22 3 .i64 Tryz.underlying22 hiv1 Aov1 t101.length cov1 16 (by omega) qv1 hroomv1
   have hrv1 := Kd.C_take (m := 16) hCv1 (by omega)
   have hyv9 : y119.length = (16 : Int).toNat := (by rw [Nyv3.out, List.length_take]; omega)
   rw [← Nyv3.out] at hrv1
   rw [← hyv9] at hcutv1
   have HRv1 := Aside0.mk hrv1
   have HCv1 := Aside0.mk (show y119.length ≤ cov1 from by omega)
   clear hrv1 hCv1 hroomv1 hiv1 hszv1
   have KYv1 := Aside0.mk hyv9
   clear hyv9
   have KLv1 := Aside0.mk (show 16 ≤ t101.length from by omega)
   replace qv1 := eq_true qv1
   have qv2 : (48 : Int) ≤ ((t101.length : Int) : Int) := of_decide_eq_true (by first | (with_reducible assumption) | assumption)
   obtain ⟨iv2, hiv2, _, hszv2, _⟩ := info_parts info3
   have hroomv2 : t101.length ≤ cov1 := (Kd.R_reads' HOv1.out).2.1
   have hCv2 : Kd.C (Kd.int .i64) _ Aov1 t101.length t101 := (Kd.R_reads' HOv1.out).2.2
   have hcutv2 := cut_from (P := Tryz.prog) 22 3 .i64 Tryz.underlying22 hiv2 1 hszv2 Aov1 t101.length cov1 48 (by omega) qv2
   have hrv2 := Kd.C_drop (m := (48 : Int).toNat) (c := cov1) hCv2 (by omega) hroomv2
   obtain ⟨Av19, hAv1⟩ : ∃ A1, A1 = (if cov1 = (48 : Int).toNat then Aov1 else (Aov1 : Option Addr).map (·.add ((48 : Int).toNat * 1))) := ⟨_, rfl⟩
   obtain ⟨cv18, hcv1⟩ : ∃ cv19, cv19 = cov1 - (48 : Int).toNat := ⟨_, rfl⟩
   have hyv10 : y132.length = t101.length - (48 : Int).toNat := (by rw [Nyv7.out, List.length_drop] <;> omega)
   rw [show (t101).drop (48 : Int).toNat = y132 from Nyv7.out.symm] at hrv2
   replace hrv2 : Kd.C (Kd.int .i64) _ Av19 y132.length y132 := (by rw [hAv1]; exact hrv2)
   rw [← hyv10, ← hAv1, ← hcv1] at hcutv2
   have HRv2 := Aside0.mk hrv2
   have HCv2 := Aside0.mk (show y132.length ≤ cv18 from by rw [hyv10, hcv1]; exact Nat.sub_le_sub_right hroomv2 _)
   clear hrv2 hCv2 hroomv2 hiv2 hszv2 hcv1
   have KYv2 := Aside0.mk hyv10
   have KAv1 := Aside0.mk hAv1
   clear hyv10 hAv1
   have KLv2 := Aside0.mk (show 48 ≤ t101.length from by omega)
   replace qv2 := eq_true qv2
   refine start_ (n := 12) (S := fun w' => True) (ds := []) #[false, false, false, false, false, false, false, false, false, false, false, false] (by kernel_rfl) rfl rfl trivial (fun hHeld => ?_); refine with_tabW lamplighterlaw12_awake.tab6 lamplighterlaw12_awake.bits6 (fun HT_ HW_ => ?_)
   generalize wv4.drew = wv5 at HOv1 HOv2 HOv3 HOv4 HB HRv1 HRv2 hHeld ⊢
   refine pure_ (i := 1) (N := some 36) (v := ?_) (a' := ?_) #[false, true, false, false, false, false, false, false, false, false, false, false] rfl rfl (any_of HT_.out (by kernel_rfl)) (fun _ _ _ h => h) (Or.inl ⟨by rfl, ?_⟩) ?_ ?_
   rotate_left
   · intro w'
     go_simp
     with_reducible rfl
   rotate_left
   · simp only [Act.put, List.setIfInBounds_toArray, List.set_cons_zero, List.set_cons_succ, i64_w, i32_w]
     rfl
   refine pure_ (i := 2) (N := some 37) (v := ?_) (a' := ?_) #[false, true, true, false, false, false, false, false, false, false, false, false] rfl rfl (any_of HT_.out (by kernel_rfl)) (fun _ _ _ h => h) (Or.inl ⟨by rfl, ?_⟩) ?_ ?_
   rotate_left
   · intro w'
     go_simp
     with_reducible rfl
   rotate_left
   · simp only [Act.put, List.setIfInBounds_toArray, List.set_cons_zero, List.set_cons_succ, i64_w, i32_w]
     rfl
   refine pure_ (i := 4) (N := some 39) (v := ?_) (a' := ?_) #[false, true, true, false, true, false, false, false, false, false, false, false] rfl rfl (any_of HT_.out (by kernel_rfl)) (fun _ _ _ h => h) (Or.inl ⟨by rfl, ?_⟩) ?_ ?_
   rotate_left
   · intro w'
     go_simp
     with_reducible rfl
   rotate_left
   · simp only [Act.put, List.setIfInBounds_toArray, List.set_cons_zero, List.set_cons_succ, i64_w, i32_w]
     rfl
   refine pure_ (i := 6) (N := some 41) (v := ?_) (a' := ?_) #[false, true, true, false, true, false, true, false, false, false, false, false] rfl rfl (any_of HT_.out (by kernel_rfl)) (fun _ _ _ h => h) (Or.inl ⟨by rfl, ?_⟩) ?_ ?_
   rotate_left
   · intro w'
     go_simp
     with_reducible rfl
   rotate_left
   · simp only [Act.put, List.setIfInBounds_toArray, List.set_cons_zero, List.set_cons_succ, i64_w, i32_w]
     rfl
   refine pure_ (i := 8) (N := some 43) (v := ?_) (a' := ?_) #[false, true, true, false, true, false, true, false, true, false, false, false] rfl rfl (any_of HT_.out (by kernel_rfl)) (fun _ _ _ h => h) (Or.inl ⟨by rfl, ?_⟩) ?_ ?_
   rotate_left
   · intro w'
     go_simp
     with_reducible rfl
   rotate_left
   · simp only [Act.put, List.setIfInBounds_toArray, List.set_cons_zero, List.set_cons_succ, i64_w, i32_w]
     rfl
   refine pure_ (i := 9) (N := some 44) (v := ?_) (a' := ?_) #[false, true, true, false, true, false, true, false, true, true, false, false] rfl rfl (any_of HT_.out (by kernel_rfl)) (fun _ _ _ h => h) (Or.inl ⟨by rfl, ?_⟩) ?_ ?_
   rotate_left
   · intro w'
     go_simp
     with_reducible rfl
   rotate_left
   · simp only [Act.put, List.setIfInBounds_toArray, List.set_cons_zero, List.set_cons_succ, i64_w, i32_w]
     rfl
   refine one_ (i := 0) (N := some 35) #[true, true, true, false, true, false, true, false, true, true, false, false] rfl rfl (one_of HT_.out (by kernel_rfl)) (by decide) (fun K hK => ?_)
   refine Kd.R_lit_step (Kd.int .i64) _ 3 ?hg (N := 35) ?hd (xs := ([] : List Int)) (inner := []) (ok := fun _ => True) (okp := fun _ => True) ?hr ?hp (fun _ hk => hk) trivial (Below.refl _ _) (Nat.le_refl _) (by simp) ?_; (case hd => rfl); (case hg => rfl); (case hr => first | (go_simp; done) | (go_simp; rfl)); (case hp => exact (Reps.none _ _))
   intro vv5 wv6 hov3 hb hg_ hnew_
   clear hg_ hnew_
   (first | rw [← Nyv2.out] at hov3 | (simp only [Int.reduceToNat] at hov3; rw [← Nyv2.out] at hov3))
   have n0_ := Aside0.mk (Kd.R_elder' (qr_ HOv1.out) (Kd.R_base hov3) hb)
   have n1_ := Aside0.mk (Kd.V_elder' (by (with_reducible repeat (first | apply Kd.V_alloc | apply Kd.V_drewN | apply Kd.V_drew)); exact HOv2.out) (Kd.R_base hov3) hb)
   have n2_ := Aside0.mk (Kd.R_elder' (qr_ HOv3.out) (Kd.R_base hov3) hb)
   have n3_ := Aside0.mk (Kd.R_elder' (qr_ HOv4.out) (Kd.R_base hov3) hb)
   have n4_ := Aside0.mk (Kd.R_lower (Kd.R_new' (Kd.R_new' (Kd.R_new' hov3 (Kd.R_lt (qr_ HOv1.out))) (Kd.R_lt (qr_ HOv3.out))) (Kd.R_lt (qr_ HOv4.out))) (below_size qh_))
   have n5_ := Aside0.mk (Kd.C_below (by repeat (first | (with_reducible exact HRv1.out) | (with_reducible refine Kd.C_alloc ?_ _) | (with_reducible refine Kd.C_drewN ?_ _) | (with_reducible refine Kd.C_drew ?_) | exact HRv1.out)) hb)
   have n6_ := Aside0.mk (Kd.C_below (by repeat (first | (with_reducible exact HRv2.out) | (with_reducible refine Kd.C_alloc ?_ _) | (with_reducible refine Kd.C_drewN ?_ _) | (with_reducible refine Kd.C_drew ?_) | exact HRv2.out)) hb)
   have n7_ := Aside0.mk (below_step qh_ hb)
   clear HOv1
   clear HOv2
   clear HOv3
   clear HOv4
   clear HRv1
   clear HRv2
   clear HB
   have HOv1 := n0_
   have HOv2 := n1_
   have HOv3 := n2_
   have HOv4 := n3_
   have HOv5 := n4_
   have HRv1 := n5_
   have HRv2 := n6_
   have HB := n7_
   clear n0_ n1_ n2_ n3_ n4_ n5_ n6_ n7_
   clear hb hov3
   refine hK.out _ _ trivial (fun hHeld => ?_)
   clear hK K
   refine norm_ (a' := ?_) ?_ ?_
   rotate_left
   · show Act.put _ (some 35) _ = _
     simp only [Act.put, List.setIfInBounds_toArray, List.set_cons_zero, List.set_cons_succ, i64_w, i32_w]
     rfl
   refine one_ (i := 3) (N := some 38) #[true, true, true, true, true, false, true, false, true, true, false, false] rfl rfl (one_of HT_.out (by kernel_rfl)) (by decide) (fun K hK => ?_)
   refine Kd.R_append_rows_step (Kd.int .i64) (w0 := w) w.heap.size (by rfl) (.tmp 35) (.tmp 37) 22 3 (.int .i64 0) 8 rfl Tryz.underlying22 info3 rfl (by decide) (by omega) vv5 y116 y119 _ _ _ (fun k_ => some k_ ≠ (.slice Aov1 t101.length cov1 : Value).ownBlock ∧ some k_ ≠ (.slice Aov2 yv1.length cov2 : Value).ownBlock ∧ some k_ ≠ (vv4 : Value).ownBlock) (fun _ => False) rfl rfl ?aO ?aR (fun _ _ h => h) (fun _ h => h.elim) ?aF ?aB ?aS ?aL ?_
   (case aR => repeat (first | exact (by repeat (first | (with_reducible exact HRv1.out) | (with_reducible refine Kd.C_alloc ?_ _) | (with_reducible refine Kd.C_drewN ?_ _) | (with_reducible refine Kd.C_drew ?_) | exact HRv1.out)) | (with_reducible refine Kd.C_alloc ?_ _) | (with_reducible refine Kd.C_drewN ?_ _) | (with_reducible refine Kd.C_drew ?_)))
   (case aB => exact qh_)
   (case aF => exact (fun k_ hk => ⟨Kd.fresh' (Kd.R_lt (qr_ HOv1.out)) k_ hk, Kd.fresh' (Kd.R_lt (qr_ HOv3.out)) k_ hk, Kd.fresh' (Kd.R_lt (qr_ HOv4.out)) k_ hk⟩))
   (case aO => exact (by (with_reducible repeat (first | apply Kd.R_alloc | apply Kd.R_drewN | apply Kd.R_drew)); exact Kd.R_mono HOv5.out (fun _ hk => ⟨hk.1.1.2, ⟨hk.1.2, hk.2⟩⟩)))
   (case aS => exact (below_size qh_))
   (case aL => have := LMcv1.out; omega)
   intro vv6 wv7 ho hb hg hat
   rw [← Nyv4.out] at ho
   have n0_ := Aside0.mk (Kd.R_after (ok := (fun k_ => some k_ ≠ (.slice Aov2 yv1.length cov2 : Value).ownBlock ∧ some k_ ≠ (vv4 : Value).ownBlock)) (by (with_reducible repeat (first | apply Kd.R_alloc | apply Kd.R_drewN | apply Kd.R_drew)); exact Kd.R_mono HOv1.out (fun _ hk => ⟨⟨hk.1.1.2, hk.1.2⟩, hk.2⟩)) hg hat)
   have n1_ := Aside0.mk (Kd.V_afterv (ok := (fun k_ => some k_ ≠ (.slice Aov1 t101.length cov1 : Value).ownBlock ∧ some k_ ≠ (.slice Aov2 yv1.length cov2 : Value).ownBlock ∧ some k_ ≠ (vv4 : Value).ownBlock)) (by (with_reducible repeat (first | apply Kd.V_alloc | apply Kd.V_drewN | apply Kd.V_drew)); exact Kd.V_mono HOv2.out (fun _ hk => ⟨⟨hk.1.1.1, ⟨hk.1.1.2, hk.1.2⟩⟩, hk.2⟩)) hg hat)
   have n2_ := Aside0.mk (Kd.R_after (ok := (fun k_ => some k_ ≠ (.slice Aov1 t101.length cov1 : Value).ownBlock ∧ some k_ ≠ (vv4 : Value).ownBlock)) (by (with_reducible repeat (first | apply Kd.R_alloc | apply Kd.R_drewN | apply Kd.R_drew)); exact Kd.R_mono HOv3.out (fun _ hk => ⟨⟨hk.1.1.2, hk.1.2⟩, hk.2⟩)) hg hat)
   have n3_ := Aside0.mk (Kd.R_after (ok := (fun k_ => some k_ ≠ (.slice Aov1 t101.length cov1 : Value).ownBlock ∧ some k_ ≠ (.slice Aov2 yv1.length cov2 : Value).ownBlock)) (by (with_reducible repeat (first | apply Kd.R_alloc | apply Kd.R_drewN | apply Kd.R_drew)); exact Kd.R_mono HOv4.out (fun _ hk => ⟨⟨hk.1.1.2, hk.1.2⟩, hk.2⟩)) hg hat)
   have n4_ := Aside0.mk (hb)
   have n5_ := Aside0.mk ((show Kd.C (Kd.int .i64) wv7 Aov1 y119.length y119 from by rw [Nyv3.out]; exact Kd.C_take (m := 16) ((Kd.R_reads' (Kd.R_after (ok := (fun k_ => some k_ ≠ (.slice Aov2 yv1.length cov2 : Value).ownBlock ∧ some k_ ≠ (vv4 : Value).ownBlock)) (by (with_reducible repeat (first | apply Kd.R_alloc | apply Kd.R_drewN | apply Kd.R_drew)); exact Kd.R_mono HOv1.out (fun _ hk => ⟨⟨hk.1.1.2, hk.1.2⟩, hk.2⟩)) hg hat)).2.2) KLv1.out))
   have n6_ := Aside0.mk ((show Kd.C (Kd.int .i64) wv7 Av19 y132.length y132 from by rw [Nyv7.out, KAv1.out]; exact Kd.C_drop (m := 48) (c := cov1) ((Kd.R_reads' (Kd.R_after (ok := (fun k_ => some k_ ≠ (.slice Aov2 yv1.length cov2 : Value).ownBlock ∧ some k_ ≠ (vv4 : Value).ownBlock)) (by (with_reducible repeat (first | apply Kd.R_alloc | apply Kd.R_drewN | apply Kd.R_drew)); exact Kd.R_mono HOv1.out (fun _ hk => ⟨⟨hk.1.1.2, hk.1.2⟩, hk.2⟩)) hg hat)).2.2) KLv2.out ((Kd.R_reads' (Kd.R_after (ok := (fun k_ => some k_ ≠ (.slice Aov2 yv1.length cov2 : Value).ownBlock ∧ some k_ ≠ (vv4 : Value).ownBlock)) (by (with_reducible repeat (first | apply Kd.R_alloc | apply Kd.R_drewN | apply Kd.R_drew)); exact Kd.R_mono HOv1.out (fun _ hk => ⟨⟨hk.1.1.2, hk.1.2⟩, hk.2⟩)) hg hat)).2.1)))
   have n7_ := Aside0.mk (ho)
   clear HOv1
   clear HOv2
   clear HOv3
   clear HOv4
   clear HB
   clear HRv1
   clear HRv2
   clear HOv5
   have HOv1 := n0_
   have HOv2 := n1_
   have HOv3 := n2_
   have HOv4 := n3_
   have HB := n4_
   have HRv1 := n5_
   have HRv2 := n6_
   have HOv6 := n7_
   clear n0_ n1_ n2_ n3_ n4_ n5_ n6_ n7_
   clear ho hb hg hat
   obtain ⟨Aov3, cov3, eov3⟩ := Kd.R_slice HOv4.out
   (first | subst eov3 | (injection eov3 with f1_ f2_ f3_; have f4_ := f1_.symm; have f5_ := f3_.symm; clear f1_ f2_ f3_; subst f4_; subst f5_))
   refine hK.out _ _ trivial (fun hHeld => ?_)
   clear hK K
   refine norm_ (a' := ?_) ?_ ?_
   rotate_left
   · show Act.put _ (some 38) _ = _
     simp only [Act.put, List.setIfInBounds_toArray, List.set_cons_zero, List.set_cons_succ, i64_w, i32_w]
     rfl
   refine one_ (i := 5) (N := some 40) #[true, true, true, true, true, true, true, false, true, true, false, false] rfl rfl (one_of HT_.out (by kernel_rfl)) (by decide) (fun K hK => ?_)
   refine Kd.R_append_rows_step (Kd.int .i64) (w0 := w) w.heap.size (by rfl) (.tmp 38) (.tmp 39) 22 3 (.int .i64 0) 8 rfl Tryz.underlying22 info3 rfl (by decide) (by omega) vv6 y123 tv3 _ _ _ (fun k_ => some k_ ≠ (.slice Aov1 t101.length cov1 : Value).ownBlock ∧ some k_ ≠ (.slice Aov2 yv1.length cov2 : Value).ownBlock ∧ some k_ ≠ (.slice Aov3 tv3.length cov3 : Value).ownBlock) (fun _ => False) rfl rfl ?aO ?aR (fun _ _ h => h) (fun _ h => h.elim) ?aF ?aB ?aS ?aL ?_
   (case aR => repeat (first | exact (Kd.R_reads' HOv4.out).2.2 | (with_reducible refine Kd.C_alloc ?_ _) | (with_reducible refine Kd.C_drewN ?_ _) | (with_reducible refine Kd.C_drew ?_)))
   (case aB => exact qh_)
   (case aF => exact (fun k_ hk => ⟨Kd.fresh' (Kd.R_lt (qr_ HOv1.out)) k_ hk, Kd.fresh' (Kd.R_lt (qr_ HOv3.out)) k_ hk, Kd.fresh' (Kd.R_lt (qr_ HOv4.out)) k_ hk⟩))
   (case aO => exact (qr_ HOv6.out))
   (case aS => exact (below_size qh_))
   (case aL => have := LMcv2.out; omega)
   intro vv7 wv8 ho hb hg hat
   rw [← Nyv5.out] at ho
   have n0_ := Aside0.mk (Kd.R_after (ok := (fun k_ => some k_ ≠ (.slice Aov2 yv1.length cov2 : Value).ownBlock ∧ some k_ ≠ (.slice Aov3 tv3.length cov3 : Value).ownBlock)) (qr_ HOv1.out) hg hat)
   have n1_ := Aside0.mk (Kd.V_afterv (ok := (fun k_ => some k_ ≠ (.slice Aov1 t101.length cov1 : Value).ownBlock ∧ some k_ ≠ (.slice Aov2 yv1.length cov2 : Value).ownBlock ∧ some k_ ≠ (.slice Aov3 tv3.length cov3 : Value).ownBlock)) (by (with_reducible repeat (first | apply Kd.V_alloc | apply Kd.V_drewN | apply Kd.V_drew)); exact HOv2.out) hg hat)
   have n2_ := Aside0.mk (Kd.R_after (ok := (fun k_ => some k_ ≠ (.slice Aov1 t101.length cov1 : Value).ownBlock ∧ some k_ ≠ (.slice Aov3 tv3.length cov3 : Value).ownBlock)) (qr_ HOv3.out) hg hat)
   have n3_ := Aside0.mk (Kd.R_after (ok := (fun k_ => some k_ ≠ (.slice Aov1 t101.length cov1 : Value).ownBlock ∧ some k_ ≠ (.slice Aov2 yv1.length cov2 : Value).ownBlock)) (qr_ HOv4.out) hg hat)
   have n4_ := Aside0.mk (hb)
   have n5_ := Aside0.mk ((show Kd.C (Kd.int .i64) wv8 Aov1 y119.length y119 from by rw [Nyv3.out]; exact Kd.C_take (m := 16) ((Kd.R_reads' (Kd.R_after (ok := (fun k_ => some k_ ≠ (.slice Aov2 yv1.length cov2 : Value).ownBlock ∧ some k_ ≠ (.slice Aov3 tv3.length cov3 : Value).ownBlock)) (qr_ HOv1.out) hg hat)).2.2) KLv1.out))
   have n6_ := Aside0.mk ((show Kd.C (Kd.int .i64) wv8 Av19 y132.length y132 from by rw [Nyv7.out, KAv1.out]; exact Kd.C_drop (m := 48) (c := cov1) ((Kd.R_reads' (Kd.R_after (ok := (fun k_ => some k_ ≠ (.slice Aov2 yv1.length cov2 : Value).ownBlock ∧ some k_ ≠ (.slice Aov3 tv3.length cov3 : Value).ownBlock)) (qr_ HOv1.out) hg hat)).2.2) KLv2.out ((Kd.R_reads' (Kd.R_after (ok := (fun k_ => some k_ ≠ (.slice Aov2 yv1.length cov2 : Value).ownBlock ∧ some k_ ≠ (.slice Aov3 tv3.length cov3 : Value).ownBlock)) (qr_ HOv1.out) hg hat)).2.1)))
   have n7_ := Aside0.mk (ho)
   clear HOv1
   clear HOv2
   clear HOv3
   clear HOv4
   clear HB
   clear HRv1
   clear HRv2
   clear HOv6
   have HOv1 := n0_
   have HOv2 := n1_
   have HOv3 := n2_
   have HOv4 := n3_
   have HB := n4_
   have HRv1 := n5_
   have HRv2 := n6_
   have HOv7 := n7_
   clear n0_ n1_ n2_ n3_ n4_ n5_ n6_ n7_
   clear ho hb hg hat
   obtain ⟨Aov4, cov4, eov4⟩ := Kd.V_slice HOv2.out
   (first | subst eov4 | (injection eov4 with f1_ f2_ f3_; have f4_ := f1_.symm; have f5_ := f3_.symm; clear f1_ f2_ f3_; subst f4_; subst f5_))
   refine hK.out _ _ trivial (fun hHeld => ?_)
   clear hK K
   refine norm_ (a' := ?_) ?_ ?_
   rotate_left
   · show Act.put _ (some 40) _ = _
     simp only [Act.put, List.setIfInBounds_toArray, List.set_cons_zero, List.set_cons_succ, i64_w, i32_w]
     rfl
   refine one_ (i := 7) (N := some 42) #[true, true, true, true, true, true, true, true, true, true, false, false] rfl rfl (one_of HT_.out (by kernel_rfl)) (by decide) (fun K hK => ?_)
   refine Kd.R_append_rows_step (Kd.int .i64) (w0 := w) w.heap.size (by rfl) (.tmp 40) (.tmp 41) 22 3 (.int .i64 0) 8 rfl Tryz.underlying22 info3 rfl (by decide) (by omega) vv7 y126 tv1 _ _ _ (fun k_ => some k_ ≠ (.slice Aov1 t101.length cov1 : Value).ownBlock ∧ some k_ ≠ (.slice Aov2 yv1.length cov2 : Value).ownBlock ∧ some k_ ≠ (.slice Aov3 tv3.length cov3 : Value).ownBlock) (fun _ => False) rfl rfl ?aO ?aR (fun _ _ h => h) (fun _ h => h.elim) ?aF ?aB ?aS ?aL ?_
   (case aR => repeat (first | exact (Kd.V_reads' HOv2.out).2.2 | (with_reducible refine Kd.C_alloc ?_ _) | (with_reducible refine Kd.C_drewN ?_ _) | (with_reducible refine Kd.C_drew ?_)))
   (case aB => exact qh_)
   (case aF => exact (fun k_ hk => ⟨Kd.fresh' (Kd.R_lt (qr_ HOv1.out)) k_ hk, Kd.fresh' (Kd.R_lt (qr_ HOv3.out)) k_ hk, Kd.fresh' (Kd.R_lt (qr_ HOv4.out)) k_ hk⟩))
   (case aO => exact (qr_ HOv7.out))
   (case aS => exact (below_size qh_))
   (case aL => have := LMcv3.out; omega)
   intro vv8 wv9 ho hb hg hat
   rw [← Nyv6.out] at ho
   have n0_ := Aside0.mk (Kd.R_after (ok := (fun k_ => some k_ ≠ (.slice Aov2 yv1.length cov2 : Value).ownBlock ∧ some k_ ≠ (.slice Aov3 tv3.length cov3 : Value).ownBlock)) (qr_ HOv1.out) hg hat)
   have n1_ := Aside0.mk (Kd.V_afterv (ok := (fun k_ => some k_ ≠ (.slice Aov1 t101.length cov1 : Value).ownBlock ∧ some k_ ≠ (.slice Aov2 yv1.length cov2 : Value).ownBlock ∧ some k_ ≠ (.slice Aov3 tv3.length cov3 : Value).ownBlock)) (by (with_reducible repeat (first | apply Kd.V_alloc | apply Kd.V_drewN | apply Kd.V_drew)); exact HOv2.out) hg hat)
   have n2_ := Aside0.mk (Kd.R_after (ok := (fun k_ => some k_ ≠ (.slice Aov1 t101.length cov1 : Value).ownBlock ∧ some k_ ≠ (.slice Aov3 tv3.length cov3 : Value).ownBlock)) (qr_ HOv3.out) hg hat)
   have n3_ := Aside0.mk (Kd.R_after (ok := (fun k_ => some k_ ≠ (.slice Aov1 t101.length cov1 : Value).ownBlock ∧ some k_ ≠ (.slice Aov2 yv1.length cov2 : Value).ownBlock)) (qr_ HOv4.out) hg hat)
   have n4_ := Aside0.mk (hb)
   have n5_ := Aside0.mk ((show Kd.C (Kd.int .i64) wv9 Aov1 y119.length y119 from by rw [Nyv3.out]; exact Kd.C_take (m := 16) ((Kd.R_reads' (Kd.R_after (ok := (fun k_ => some k_ ≠ (.slice Aov2 yv1.length cov2 : Value).ownBlock ∧ some k_ ≠ (.slice Aov3 tv3.length cov3 : Value).ownBlock)) (qr_ HOv1.out) hg hat)).2.2) KLv1.out))
   have n6_ := Aside0.mk ((show Kd.C (Kd.int .i64) wv9 Av19 y132.length y132 from by rw [Nyv7.out, KAv1.out]; exact Kd.C_drop (m := 48) (c := cov1) ((Kd.R_reads' (Kd.R_after (ok := (fun k_ => some k_ ≠ (.slice Aov2 yv1.length cov2 : Value).ownBlock ∧ some k_ ≠ (.slice Aov3 tv3.length cov3 : Value).ownBlock)) (qr_ HOv1.out) hg hat)).2.2) KLv2.out ((Kd.R_reads' (Kd.R_after (ok := (fun k_ => some k_ ≠ (.slice Aov2 yv1.length cov2 : Value).ownBlock ∧ some k_ ≠ (.slice Aov3 tv3.length cov3 : Value).ownBlock)) (qr_ HOv1.out) hg hat)).2.1)))
   have n7_ := Aside0.mk (ho)
   clear HOv1
   clear HOv2
   clear HOv3
   clear HOv4
   clear HB
   clear HRv1
   clear HRv2
   clear HOv7
   have HOv1 := n0_
   have HOv2 := n1_
   have HOv3 := n2_
   have HOv4 := n3_
   have HB := n4_
   have HRv1 := n5_
   have HRv2 := n6_
   have HOv8 := n7_
   clear n0_ n1_ n2_ n3_ n4_ n5_ n6_ n7_
   clear ho hb hg hat
   refine hK.out _ _ trivial (fun hHeld => ?_)
   clear hK K
   refine norm_ (a' := ?_) ?_ ?_
   rotate_left
   · show Act.put _ (some 42) _ = _
     simp only [Act.put, List.setIfInBounds_toArray, List.set_cons_zero, List.set_cons_succ, i64_w, i32_w]
     rfl
   refine one_ (i := 10) (N := some 45) #[true, true, true, true, true, true, true, true, true, true, true, false] rfl rfl (one_of HT_.out (by kernel_rfl)) (by decide) (fun K hK => ?_)
   refine Kd.R_append_rows_step (Kd.int .i64) (w0 := w) w.heap.size (by rfl) (.tmp 42) (.tmp 44) 22 3 (.int .i64 0) 8 rfl Tryz.underlying22 info3 rfl (by decide) (by omega) vv8 y129 y132 _ _ _ (fun k_ => some k_ ≠ (.slice Aov1 t101.length cov1 : Value).ownBlock ∧ some k_ ≠ (.slice Aov2 yv1.length cov2 : Value).ownBlock ∧ some k_ ≠ (.slice Aov3 tv3.length cov3 : Value).ownBlock) (fun _ => False) rfl rfl ?aO ?aR (fun _ _ h => h) (fun _ h => h.elim) ?aF ?aB ?aS ?aL ?_
   (case aR => repeat (first | exact (by repeat (first | (with_reducible exact HRv2.out) | (with_reducible refine Kd.C_alloc ?_ _) | (with_reducible refine Kd.C_drewN ?_ _) | (with_reducible refine Kd.C_drew ?_) | exact HRv2.out)) | (with_reducible refine Kd.C_alloc ?_ _) | (with_reducible refine Kd.C_drewN ?_ _) | (with_reducible refine Kd.C_drew ?_)))
   (case aB => exact qh_)
   (case aF => exact (fun k_ hk => ⟨Kd.fresh' (Kd.R_lt (qr_ HOv1.out)) k_ hk, Kd.fresh' (Kd.R_lt (qr_ HOv3.out)) k_ hk, Kd.fresh' (Kd.R_lt (qr_ HOv4.out)) k_ hk⟩))
   (case aO => exact (qr_ HOv8.out))
   (case aS => exact (below_size qh_))
   (case aL => have := LMcv4.out; omega)
   intro vv9 wv10 ho hb hg hat
   rw [← Nyv8.out] at ho
   have n0_ := Aside0.mk (Kd.R_after (ok := (fun k_ => some k_ ≠ (.slice Aov2 yv1.length cov2 : Value).ownBlock ∧ some k_ ≠ (.slice Aov3 tv3.length cov3 : Value).ownBlock)) (qr_ HOv1.out) hg hat)
   have n1_ := Aside0.mk (Kd.V_afterv (ok := (fun k_ => some k_ ≠ (.slice Aov1 t101.length cov1 : Value).ownBlock ∧ some k_ ≠ (.slice Aov2 yv1.length cov2 : Value).ownBlock ∧ some k_ ≠ (.slice Aov3 tv3.length cov3 : Value).ownBlock)) (by (with_reducible repeat (first | apply Kd.V_alloc | apply Kd.V_drewN | apply Kd.V_drew)); exact HOv2.out) hg hat)
   have n2_ := Aside0.mk (Kd.R_after (ok := (fun k_ => some k_ ≠ (.slice Aov1 t101.length cov1 : Value).ownBlock ∧ some k_ ≠ (.slice Aov3 tv3.length cov3 : Value).ownBlock)) (qr_ HOv3.out) hg hat)
   have n3_ := Aside0.mk (Kd.R_after (ok := (fun k_ => some k_ ≠ (.slice Aov1 t101.length cov1 : Value).ownBlock ∧ some k_ ≠ (.slice Aov2 yv1.length cov2 : Value).ownBlock)) (qr_ HOv4.out) hg hat)
   have n4_ := Aside0.mk (hb)
   have n5_ := Aside0.mk ((show Kd.C (Kd.int .i64) wv10 Aov1 y119.length y119 from by rw [Nyv3.out]; exact Kd.C_take (m := 16) ((Kd.R_reads' (Kd.R_after (ok := (fun k_ => some k_ ≠ (.slice Aov2 yv1.length cov2 : Value).ownBlock ∧ some k_ ≠ (.slice Aov3 tv3.length cov3 : Value).ownBlock)) (qr_ HOv1.out) hg hat)).2.2) KLv1.out))
   have n6_ := Aside0.mk ((show Kd.C (Kd.int .i64) wv10 Av19 y132.length y132 from by rw [Nyv7.out, KAv1.out]; exact Kd.C_drop (m := 48) (c := cov1) ((Kd.R_reads' (Kd.R_after (ok := (fun k_ => some k_ ≠ (.slice Aov2 yv1.length cov2 : Value).ownBlock ∧ some k_ ≠ (.slice Aov3 tv3.length cov3 : Value).ownBlock)) (qr_ HOv1.out) hg hat)).2.2) KLv2.out ((Kd.R_reads' (Kd.R_after (ok := (fun k_ => some k_ ≠ (.slice Aov2 yv1.length cov2 : Value).ownBlock ∧ some k_ ≠ (.slice Aov3 tv3.length cov3 : Value).ownBlock)) (qr_ HOv1.out) hg hat)).2.1)))
   have n7_ := Aside0.mk (ho)
   clear HOv1
   clear HOv2
   clear HOv3
   clear HOv4
   clear HB
   clear HRv1
   clear HRv2
   clear HOv8
   have HOv1 := n0_
   have HOv2 := n1_
   have HOv3 := n2_
   have HOv4 := n3_
   have HB := n4_
   have HRv1 := n5_
   have HRv2 := n6_
   have HOv9 := n7_
   clear n0_ n1_ n2_ n3_ n4_ n5_ n6_ n7_
   clear ho hb hg hat
   refine hK.out _ _ trivial (fun hHeld => ?_)
   clear hK K
   refine norm_ (a' := ?_) ?_ ?_
   rotate_left
   · show Act.put _ (some 45) _ = _
     simp only [Act.put, List.setIfInBounds_toArray, List.set_cons_zero, List.set_cons_succ, i64_w, i32_w]
     rfl
   refine pure_ (i := 11) (N := some 1) (v := ?_) (a' := ?_) #[true, true, true, true, true, true, true, true, true, true, true, true] rfl rfl (any_of HT_.out (by kernel_rfl)) (fun _ _ _ h => h) (Or.inl ⟨by rfl, ?_⟩) ?_ ?_
   rotate_left
   · intro w'
     go_simp
     with_reducible rfl
   rotate_left
   · simp only [Act.put, List.setIfInBounds_toArray, List.set_cons_zero, List.set_cons_succ, i64_w, i32_w]
     rfl
   refine done_ (done_of HT_.out (by kernel_rfl)) ?_
   obtain ⟨Aov5, cov5, eov5⟩ := Kd.R_slice HOv9.out
   subst eov5
   try go_wp2_with (first | ((with_reducible refine gate_callee (f := 8) rfl ?_); refine goesL_ (some 48) rfl rfl Tryz.func8 (by kernel_rfl) rfl #[.slice Aov5 y136.length cov5] rfl qm_ ?_; (with_reducible refine (amap_Pairs.calls _ _ y136 tv5 tv6 _ ?side1 ?side2 Av6.out).mono ?_); (case side1 => repeat (first | exact (Kd.R_reads' HOv9.out).2.2 | (with_reducible refine Kd.C_alloc ?_ _) | (with_reducible refine Kd.C_drewN ?_ _) | (with_reducible refine Kd.C_drew ?_))); (case side2 => exact (Kd.R_reads' HOv9.out).2.1); rintro e wv11 ⟨vv10, rfl, hov1, hb⟩; refine ⟨_, rfl, ?_⟩; have n0_ := Aside0.mk (Kd.R_below (qr_ HOv1.out) hb); have n1_ := Aside0.mk (Kd.V_elder' (by (with_reducible repeat (first | apply Kd.V_alloc | apply Kd.V_drewN | apply Kd.V_drew)); exact HOv2.out) (Kd.R_base hov1) hb); have n2_ := Aside0.mk (Kd.R_below (qr_ HOv3.out) hb); have n3_ := Aside0.mk (Kd.R_below (qr_ HOv4.out) hb); have n4_ := Aside0.mk (Kd.R_below (qr_ HOv9.out) hb); have n5_ := Aside0.mk (Kd.R_lower hov1 (below_size qh_)); have n6_ := Aside0.mk (Kd.C_below (by repeat (first | (with_reducible exact HRv1.out) | (with_reducible refine Kd.C_alloc ?_ _) | (with_reducible refine Kd.C_drewN ?_ _) | (with_reducible refine Kd.C_drew ?_) | exact HRv1.out)) hb); have n7_ := Aside0.mk (Kd.C_below (by repeat (first | (with_reducible exact HRv2.out) | (with_reducible refine Kd.C_alloc ?_ _) | (with_reducible refine Kd.C_drewN ?_ _) | (with_reducible refine Kd.C_drew ?_) | exact HRv2.out)) hb); have n8_ := Aside0.mk (below_step qh_ hb); clear HOv1; clear HOv2; clear HOv3; clear HOv4; clear HOv9; clear HRv1; clear HRv2; clear HB; have HOv1 := n0_; have HOv2 := n1_; have HOv3 := n2_; have HOv4 := n3_; have HOv9 := n4_; have HOv10 := n5_; have HRv1 := n6_; have HRv2 := n7_; have HB := n8_; clear n0_ n1_ n2_ n3_ n4_ n5_ n6_ n7_ n8_; (try clear hb); (try clear hbv1); (try clear hk); (try clear hi); (try clear hov1)) | ((with_reducible refine gate_callee (f := 6) rfl ?_); refine goesL_ (some 53) rfl rfl Tryz.func6 (by kernel_rfl) rfl #[.slice Aov5 y136.length cov5, .int .i64 1] rfl qm_ ?_; (with_reducible refine (amap_Own.calls _ _ y136 1 tv7 tv8 _ ?side1 ?side2 Av8.out).mono ?_); (case side1 => repeat (first | exact (Kd.R_reads' HOv9.out).2.2 | (with_reducible refine Kd.C_alloc ?_ _) | (with_reducible refine Kd.C_drewN ?_ _) | (with_reducible refine Kd.C_drew ?_))); (case side2 => exact (Kd.R_reads' HOv9.out).2.1); rintro e wv12 ⟨vv11, rfl, hov1, hb⟩; refine ⟨_, rfl, ?_⟩; have n0_ := Aside0.mk (Kd.R_below (qr_ HOv1.out) hb); have n1_ := Aside0.mk (Kd.V_elder' (by (with_reducible repeat (first | apply Kd.V_alloc | apply Kd.V_drewN | apply Kd.V_drew)); exact HOv2.out) (Kd.R_base hov1) hb); have n2_ := Aside0.mk (Kd.R_below (qr_ HOv3.out) hb); have n3_ := Aside0.mk (Kd.R_below (qr_ HOv4.out) hb); have n4_ := Aside0.mk (Kd.R_below (qr_ HOv9.out) hb); have n5_ := Aside0.mk (Kd.R_elder' (qr_ HOv10.out) (Kd.R_base hov1) hb); have n6_ := Aside0.mk (Kd.R_lower (Kd.R_new' hov1 (Kd.R_lt (qr_ HOv10.out))) (below_size qh_)); have n7_ := Aside0.mk (Kd.C_below (by repeat (first | (with_reducible exact HRv1.out) | (with_reducible refine Kd.C_alloc ?_ _) | (with_reducible refine Kd.C_drewN ?_ _) | (with_reducible refine Kd.C_drew ?_) | exact HRv1.out)) hb); have n8_ := Aside0.mk (Kd.C_below (by repeat (first | (with_reducible exact HRv2.out) | (with_reducible refine Kd.C_alloc ?_ _) | (with_reducible refine Kd.C_drewN ?_ _) | (with_reducible refine Kd.C_drew ?_) | exact HRv2.out)) hb); have n9_ := Aside0.mk (below_step qh_ hb); clear HOv1; clear HOv2; clear HOv3; clear HOv4; clear HOv9; clear HOv10; clear HRv1; clear HRv2; clear HB; have HOv1 := n0_; have HOv2 := n1_; have HOv3 := n2_; have HOv4 := n3_; have HOv9 := n4_; have HOv10 := n5_; have HOv11 := n6_; have HRv1 := n7_; have HRv2 := n8_; have HB := n9_; clear n0_ n1_ n2_ n3_ n4_ n5_ n6_ n7_ n8_ n9_; (try clear hb); (try clear hbv1); (try clear hk); (try clear hi); (try clear hov1)) | ((with_reducible refine gate_callee (f := 6) rfl ?_); refine goesL_ (some 58) rfl rfl Tryz.func6 (by kernel_rfl) rfl #[.slice Aov5 y136.length cov5, .int .i64 2] rfl qm_ ?_; (with_reducible refine (amap_Own.calls _ _ y136 2 tv9 tv10 _ ?side1 ?side2 Av10.out).mono ?_); (case side1 => repeat (first | exact (Kd.R_reads' HOv9.out).2.2 | (with_reducible refine Kd.C_alloc ?_ _) | (with_reducible refine Kd.C_drewN ?_ _) | (with_reducible refine Kd.C_drew ?_))); (case side2 => exact (Kd.R_reads' HOv9.out).2.1); rintro e wv13 ⟨vv12, rfl, hov1, hb⟩; refine ⟨_, rfl, ?_⟩; have n0_ := Aside0.mk (Kd.R_below (qr_ HOv1.out) hb); have n1_ := Aside0.mk (Kd.V_elder' (by (with_reducible repeat (first | apply Kd.V_alloc | apply Kd.V_drewN | apply Kd.V_drew)); exact HOv2.out) (Kd.R_base hov1) hb); have n2_ := Aside0.mk (Kd.R_below (qr_ HOv3.out) hb); have n3_ := Aside0.mk (Kd.R_below (qr_ HOv4.out) hb); have n4_ := Aside0.mk (Kd.R_below (qr_ HOv9.out) hb); have n5_ := Aside0.mk (Kd.R_elder' (qr_ HOv10.out) (Kd.R_base hov1) hb); have n6_ := Aside0.mk (Kd.R_elder' (qr_ HOv11.out) (Kd.R_base hov1) hb); have n7_ := Aside0.mk (Kd.R_lower (Kd.R_new' (Kd.R_new' hov1 (Kd.R_lt (qr_ HOv10.out))) (Kd.R_lt (qr_ HOv11.out))) (below_size qh_)); have n8_ := Aside0.mk (Kd.C_below (by repeat (first | (with_reducible exact HRv1.out) | (with_reducible refine Kd.C_alloc ?_ _) | (with_reducible refine Kd.C_drewN ?_ _) | (with_reducible refine Kd.C_drew ?_) | exact HRv1.out)) hb); have n9_ := Aside0.mk (Kd.C_below (by repeat (first | (with_reducible exact HRv2.out) | (with_reducible refine Kd.C_alloc ?_ _) | (with_reducible refine Kd.C_drewN ?_ _) | (with_reducible refine Kd.C_drew ?_) | exact HRv2.out)) hb); have n10_ := Aside0.mk (below_step qh_ hb); clear HOv1; clear HOv2; clear HOv3; clear HOv4; clear HOv9; clear HOv10; clear HOv11; clear HRv1; clear HRv2; clear HB; have HOv1 := n0_; have HOv2 := n1_; have HOv3 := n2_; have HOv4 := n3_; have HOv9 := n4_; have HOv10 := n5_; have HOv11 := n6_; have HOv12 := n7_; have HRv1 := n8_; have HRv2 := n9_; have HB := n10_; clear n0_ n1_ n2_ n3_ n4_ n5_ n6_ n7_ n8_ n9_ n10_; (try clear hb); (try clear hbv1); (try clear hk); (try clear hi); (try clear hov1)) | ((with_reducible refine gate_callee (f := 8) rfl ?_); refine goesL_ (some 62) rfl rfl Tryz.func8 (by kernel_rfl) rfl #[.slice none 0 0] rfl qm_ ?_; (refine (amap_Pairs.calls _ _ ([] : List Int) tv11 tv12 _ ?side1 ?side2 Av12.out).mono ?_); (case side1 => exact Kd.C_nil _ _); (case side2 => exact Nat.le_refl _); rintro e wv14 ⟨vv13, rfl, hov1, hb⟩; refine ⟨_, rfl, ?_⟩; have n0_ := Aside0.mk (Kd.R_below (qr_ HOv1.out) hb); have n1_ := Aside0.mk (Kd.V_elder' (by (with_reducible repeat (first | apply Kd.V_alloc | apply Kd.V_drewN | apply Kd.V_drew)); exact HOv2.out) (Kd.R_base hov1) hb); have n2_ := Aside0.mk (Kd.R_below (qr_ HOv3.out) hb); have n3_ := Aside0.mk (Kd.R_below (qr_ HOv4.out) hb); have n4_ := Aside0.mk (Kd.R_below (qr_ HOv9.out) hb); have n5_ := Aside0.mk (Kd.R_elder' (qr_ HOv10.out) (Kd.R_base hov1) hb); have n6_ := Aside0.mk (Kd.R_elder' (qr_ HOv11.out) (Kd.R_base hov1) hb); have n7_ := Aside0.mk (Kd.R_elder' (qr_ HOv12.out) (Kd.R_base hov1) hb); have n8_ := Aside0.mk (Kd.R_lower (Kd.R_new' (Kd.R_new' (Kd.R_new' hov1 (Kd.R_lt (qr_ HOv10.out))) (Kd.R_lt (qr_ HOv11.out))) (Kd.R_lt (qr_ HOv12.out))) (below_size qh_)); have n9_ := Aside0.mk (Kd.C_below (by repeat (first | (with_reducible exact HRv1.out) | (with_reducible refine Kd.C_alloc ?_ _) | (with_reducible refine Kd.C_drewN ?_ _) | (with_reducible refine Kd.C_drew ?_) | exact HRv1.out)) hb); have n10_ := Aside0.mk (Kd.C_below (by repeat (first | (with_reducible exact HRv2.out) | (with_reducible refine Kd.C_alloc ?_ _) | (with_reducible refine Kd.C_drewN ?_ _) | (with_reducible refine Kd.C_drew ?_) | exact HRv2.out)) hb); have n11_ := Aside0.mk (below_step qh_ hb); clear HOv1; clear HOv2; clear HOv3; clear HOv4; clear HOv9; clear HOv10; clear HOv11; clear HOv12; clear HRv1; clear HRv2; clear HB; have HOv1 := n0_; have HOv2 := n1_; have HOv3 := n2_; have HOv4 := n3_; have HOv9 := n4_; have HOv10 := n5_; have HOv11 := n6_; have HOv12 := n7_; have HOv13 := n8_; have HRv1 := n9_; have HRv2 := n10_; have HB := n11_; clear n0_ n1_ n2_ n3_ n4_ n5_ n6_ n7_ n8_ n9_ n10_ n11_; (try clear hb); (try clear hbv1); (try clear hk); (try clear hi); (try clear hov1); obtain ⟨Aov6, cov6, eov6⟩ := Kd.R_slice HOv10.out; subst eov6) | ((with_reducible refine gate_callee (f := 10) rfl ?_); refine goesL_ (some 67) rfl rfl Tryz.func10 (by kernel_rfl) rfl #[.slice Aov6 tv5.length cov6, .string (⟨#[97]⟩ : ByteArray)] rfl qm_ ?_; (with_reducible refine (amap_Get.calls _ _ tv5 (⟨#[97]⟩ : ByteArray) tv13 true _ ?side1 ?side2 Av14.out).mono ?_); (case side1 => repeat (first | exact (Kd.R_reads' HOv10.out).2.2 | (with_reducible refine Kd.C_alloc ?_ _) | (with_reducible refine Kd.C_drewN ?_ _) | (with_reducible refine Kd.C_drew ?_))); (case side2 => exact (Kd.R_reads' HOv10.out).2.1); rintro e wv15 ⟨rfl, hb⟩; refine ⟨_, rfl, ?_⟩; have n0_ := Aside0.mk (Kd.R_below (qr_ HOv1.out) hb); have n1_ := Aside0.mk (Kd.V_below (by (with_reducible repeat (first | apply Kd.V_alloc | apply Kd.V_drewN | apply Kd.V_drew)); exact HOv2.out) hb); have n2_ := Aside0.mk (Kd.R_below (qr_ HOv3.out) hb); have n3_ := Aside0.mk (Kd.R_below (qr_ HOv4.out) hb); have n4_ := Aside0.mk (Kd.R_below (qr_ HOv9.out) hb); have n5_ := Aside0.mk (Kd.R_below (qr_ HOv10.out) hb); have n6_ := Aside0.mk (Kd.R_below (qr_ HOv11.out) hb); have n7_ := Aside0.mk (Kd.R_below (qr_ HOv12.out) hb); have n8_ := Aside0.mk (Kd.R_below (qr_ HOv13.out) hb); have n9_ := Aside0.mk (Kd.C_below (by repeat (first | (with_reducible exact HRv1.out) | (with_reducible refine Kd.C_alloc ?_ _) | (with_reducible refine Kd.C_drewN ?_ _) | (with_reducible refine Kd.C_drew ?_) | exact HRv1.out)) hb); have n10_ := Aside0.mk (Kd.C_below (by repeat (first | (with_reducible exact HRv2.out) | (with_reducible refine Kd.C_alloc ?_ _) | (with_reducible refine Kd.C_drewN ?_ _) | (with_reducible refine Kd.C_drew ?_) | exact HRv2.out)) hb); have n11_ := Aside0.mk (below_step qh_ hb); clear HOv1; clear HOv2; clear HOv3; clear HOv4; clear HOv9; clear HOv10; clear HOv11; clear HOv12; clear HOv13; clear HRv1; clear HRv2; clear HB; have HOv1 := n0_; have HOv2 := n1_; have HOv3 := n2_; have HOv4 := n3_; have HOv9 := n4_; have HOv10 := n5_; have HOv11 := n6_; have HOv12 := n7_; have HOv13 := n8_; have HRv1 := n9_; have HRv2 := n10_; have HB := n11_; clear n0_ n1_ n2_ n3_ n4_ n5_ n6_ n7_ n8_ n9_ n10_ n11_; (try clear hb); (try clear hbv1); (try clear hk); (try clear hi); have pv1 : 0 ≤ (0 : Int) := (by omega); have qv3 : 0 < (tv5.length : Int) := of_decide_eq_true (by first | (with_reducible assumption) | assumption); obtain ⟨adv1, ev1, hxv1, hxv2⟩ := at_T45 (Kd.R_reads' HOv10.out).2.2 0 pv1 qv3; cases ev1; have qiv1 : (0 < tv5.length) = True := eq_true (by omega); (try rw [show ((0 : Int)).toNat = 0 from rfl] at hxv1); (try rw [show 0 * 2 = 0 from rfl] at hxv1); (try rw [Addr.add_zero'] at hxv1); (try rw [show ((0 : Int)).toNat = 0 from rfl] at hxv2); (try rw [show 0 * 2 = 0 from rfl] at hxv2); (try rw [Addr.add_zero'] at hxv2); replace pv1 := eq_true pv1; replace qv3 := eq_true qv3; obtain ⟨Aov7, cov7, eov7⟩ := Kd.R_slice HOv11.out; subst eov7) | (go_at_call 15; (with_reducible refine (amap_Without.calls _ _ tv5 (⟨#[97]⟩ : ByteArray) t158 _ ?side1 ?side2 Av16.out).mono ?_); (case side1 => repeat (first | exact (Kd.R_reads' HOv10.out).2.2 | (with_reducible refine Kd.C_alloc ?_ _) | (with_reducible refine Kd.C_drewN ?_ _) | (with_reducible refine Kd.C_drew ?_))); (case side2 => exact (Kd.R_reads' HOv10.out).2.1); rintro e wv16 ⟨vv14, rfl, hov1, hb⟩; have n0_ := Aside0.mk (Kd.R_below (qr_ HOv1.out) hb); have n1_ := Aside0.mk (Kd.V_elder' (by (with_reducible repeat (first | apply Kd.V_alloc | apply Kd.V_drewN | apply Kd.V_drew)); exact HOv2.out) (Kd.R_base hov1) hb); have n2_ := Aside0.mk (Kd.R_below (qr_ HOv3.out) hb); have n3_ := Aside0.mk (Kd.R_below (qr_ HOv4.out) hb); have n4_ := Aside0.mk (Kd.R_below (qr_ HOv9.out) hb); have n5_ := Aside0.mk (Kd.R_elder' (qr_ HOv10.out) (Kd.R_base hov1) hb); have n6_ := Aside0.mk (Kd.R_elder' (qr_ HOv11.out) (Kd.R_base hov1) hb); have n7_ := Aside0.mk (Kd.R_elder' (qr_ HOv12.out) (Kd.R_base hov1) hb); have n8_ := Aside0.mk (Kd.R_elder' (qr_ HOv13.out) (Kd.R_base hov1) hb); have n9_ := Aside0.mk (Kd.R_lower (Kd.R_new' (Kd.R_new' (Kd.R_new' (Kd.R_new' hov1 (Kd.R_lt (qr_ HOv10.out))) (Kd.R_lt (qr_ HOv11.out))) (Kd.R_lt (qr_ HOv12.out))) (Kd.R_lt (qr_ HOv13.out))) (below_size qh_)); have n10_ := Aside0.mk (Kd.C_below (by repeat (first | (with_reducible exact HRv1.out) | (with_reducible refine Kd.C_alloc ?_ _) | (with_reducible refine Kd.C_drewN ?_ _) | (with_reducible refine Kd.C_drew ?_) | exact HRv1.out)) hb); have n11_ := Aside0.mk (Kd.C_below (by repeat (first | (with_reducible exact HRv2.out) | (with_reducible refine Kd.C_alloc ?_ _) | (with_reducible refine Kd.C_drewN ?_ _) | (with_reducible refine Kd.C_drew ?_) | exact HRv2.out)) hb); have n12_ := Aside0.mk (below_step qh_ hb); clear HOv1; clear HOv2; clear HOv3; clear HOv4; clear HOv9; clear HOv10; clear HOv11; clear HOv12; clear HOv13; clear HRv1; clear HRv2; clear HB; have HOv1 := n0_; have HOv2 := n1_; have HOv3 := n2_; have HOv4 := n3_; have HOv9 := n4_; have HOv10 := n5_; have HOv11 := n6_; have HOv12 := n7_; have HOv13 := n8_; have HOv14 := n9_; have HRv1 := n10_; have HRv2 := n11_; have HB := n12_; clear n0_ n1_ n2_ n3_ n4_ n5_ n6_ n7_ n8_ n9_ n10_ n11_ n12_; (try clear hb); (try clear hbv1); (try clear hk); (try clear hi); (try clear hov1); obtain ⟨Aov8, cov8, eov8⟩ := Kd.R_slice HOv14.out; subst eov8) | (go_at_call 13; (with_reducible refine (amap_With.calls _ _ tv5 (⟨#[99]⟩ : ByteArray) (⟨#[100]⟩ : ByteArray) t161 _ ?side1 ?side2 Av18.out).mono ?_); (case side1 => repeat (first | exact (Kd.R_reads' HOv10.out).2.2 | (with_reducible refine Kd.C_alloc ?_ _) | (with_reducible refine Kd.C_drewN ?_ _) | (with_reducible refine Kd.C_drew ?_))); (case side2 => exact (Kd.R_reads' HOv10.out).2.1); rintro e wv17 ⟨vv15, rfl, hov1, hb⟩; have n0_ := Aside0.mk (Kd.R_below (qr_ HOv1.out) hb); have n1_ := Aside0.mk (Kd.V_elder' (by (with_reducible repeat (first | apply Kd.V_alloc | apply Kd.V_drewN | apply Kd.V_drew)); exact HOv2.out) (Kd.R_base hov1) hb); have n2_ := Aside0.mk (Kd.R_below (qr_ HOv3.out) hb); have n3_ := Aside0.mk (Kd.R_below (qr_ HOv4.out) hb); have n4_ := Aside0.mk (Kd.R_below (qr_ HOv9.out) hb); have n5_ := Aside0.mk (Kd.R_elder' (qr_ HOv10.out) (Kd.R_base hov1) hb); have n6_ := Aside0.mk (Kd.R_elder' (qr_ HOv11.out) (Kd.R_base hov1) hb); have n7_ := Aside0.mk (Kd.R_elder' (qr_ HOv12.out) (Kd.R_base hov1) hb); have n8_ := Aside0.mk (Kd.R_elder' (qr_ HOv13.out) (Kd.R_base hov1) hb); have n9_ := Aside0.mk (Kd.R_elder' (qr_ HOv14.out) (Kd.R_base hov1) hb); have n10_ := Aside0.mk (Kd.R_lower (Kd.R_new' (Kd.R_new' (Kd.R_new' (Kd.R_new' (Kd.R_new' hov1 (Kd.R_lt (qr_ HOv10.out))) (Kd.R_lt (qr_ HOv11.out))) (Kd.R_lt (qr_ HOv12.out))) (Kd.R_lt (qr_ HOv13.out))) (Kd.R_lt (qr_ HOv14.out))) (below_size qh_)); have n11_ := Aside0.mk (Kd.C_below (by repeat (first | (with_reducible exact HRv1.out) | (with_reducible refine Kd.C_alloc ?_ _) | (with_reducible refine Kd.C_drewN ?_ _) | (with_reducible refine Kd.C_drew ?_) | exact HRv1.out)) hb); have n12_ := Aside0.mk (Kd.C_below (by repeat (first | (with_reducible exact HRv2.out) | (with_reducible refine Kd.C_alloc ?_ _) | (with_reducible refine Kd.C_drewN ?_ _) | (with_reducible refine Kd.C_drew ?_) | exact HRv2.out)) hb); have n13_ := Aside0.mk (below_step qh_ hb); clear HOv1; clear HOv2; clear HOv3; clear HOv4; clear HOv9; clear HOv10; clear HOv11; clear HOv12; clear HOv13; clear HOv14; clear HRv1; clear HRv2; clear HB; have HOv1 := n0_; have HOv2 := n1_; have HOv3 := n2_; have HOv4 := n3_; have HOv9 := n4_; have HOv10 := n5_; have HOv11 := n6_; have HOv12 := n7_; have HOv13 := n8_; have HOv14 := n9_; have HOv15 := n10_; have HRv1 := n11_; have HRv2 := n12_; have HB := n13_; clear n0_ n1_ n2_ n3_ n4_ n5_ n6_ n7_ n8_ n9_ n10_ n11_ n12_ n13_; (try clear hb); (try clear hbv1); (try clear hk); (try clear hi); (try clear hov1); obtain ⟨Aov9, cov9, eov9⟩ := Kd.R_slice HOv15.out; subst eov9))
   go_ret
   exact ⟨qe_, qh_⟩
 · rw [if_neg cv17] at H
   exact absurd H (by simp)
 · replace cv16 := Bool.eq_false_iff.mpr cv16
   subst cv16
   have Hv1 : (none) = some r := by rw [if_neg (show ¬ (false = true) by decide)] at H; exact H
   clear H
   have H := Hv1
   clear Hv1
   exact absurd H (by simp)
 · rw [if_neg cv15] at H
   exact absurd H (by simp)
 · rw [if_neg cv14] at H
   exact absurd H (by simp)
 · rw [if_neg cv13] at H
   exact absurd H (by simp)
 · rw [if_neg cv12] at H
   exact absurd H (by simp)
 · rw [if_neg cv11] at H
   exact absurd H (by simp)
 · rw [if_neg cv10] at H
   exact absurd H (by simp)
 · rw [if_neg cv9] at H
   exact absurd H (by simp)
 · rw [if_neg cv8] at H
   exact absurd H (by simp)
 · rw [if_neg cv7] at H
   exact absurd H (by simp)
 · rw [if_neg cv6] at H
   exact absurd H (by simp)
 · rw [if_neg cv5] at H
   exact absurd H (by simp)
 · rw [if_neg cv4] at H
   exact absurd H (by simp)
 · rw [if_neg cv3] at H
   exact absurd H (by simp)
 · rw [if_neg cv2] at H
   exact absurd H (by simp)
 · rw [if_neg cv1] at H
   exact absurd H (by simp)
 rw [if_neg c2] at H
 exact absurd H (by simp)
end
end Go.Proofs.YtliaemoomhfcdaaGreat.AV
