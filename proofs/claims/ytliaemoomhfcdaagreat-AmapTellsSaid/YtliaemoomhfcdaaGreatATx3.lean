/- Written by this session's own program (hprint.py) with the help of the kit's print. Lean checks it. -/
import Derived.Test.YtliaemoomhfcdaaGreatMX
import Derived.Test.YtliaemoomhfcdaaGreatATx0
import Derived.Test.YtliaemoomhfcdaaGreatATx2
import Derived.Test.YtliaemoomhfcdaaGreatGivenAT
import Derived.Test.YtliaemoomhfcdaaGreatMA
namespace Go.Proofs.YtliaemoomhfcdaaGreat.AT
attribute [local go_sem] Go.Proofs.YtliaemoomhfcdaaGreat.le_flip
open Go.Proofs.YtliaemoomhfcdaaGreat.AT Go.Proofs.YtliaemoomhfcdaaGreat.AZ Go.Proofs.YtliaemoomhfcdaaGreat.RF Go.Proofs.YtliaemoomhfcdaaGreat.RK   -- OPENED
open Go.RowKit Go.Proofs.YtliaemoomhfcdaaGreatW.PrintWords Go.Proofs.YtliaemoomhfcdaaGreatW.PrintLast Go.Proofs.YtliaemoomhfcdaaGreatW.PrintMore
attribute [local go_sem] max2_int min2_int max_two min_two max_three min_three max_four min_four   -- for this text's walks alone
set_option linter.unusedVariables false
set_option linter.unusedSimpArgs false
noncomputable section

/-! ### lamplighterref12_Without: function 16 -/
def lamplighterref12_Without.l0 : Nat → List (S45) → ByteArray → List (S45) → Int → Option ((List (S45)))
  | 0, _, _, _, _ => none
  | k + 1, x0, x1, x5, x6 => if x6 < (x0.length : Int) then (if 0 ≤ x6 then (if ((rd_T45 x0 x6).f0).toList = x1.toList then (lamplighterref12_Without.l0 k x0 x1 x5 (wrap64 (x6 + 1))) else (if x5.length < 4398046511104 then (lamplighterref12_Without.l0 k x0 x1 (x5 ++ [(⟨(rd_T45 x0 x6).f0, (rd_T45 x0 x6).f1⟩ : S45)]) (wrap64 (x6 + 1))) else (none))) else (none)) else (some x5)
def lamplighterref12_Without.f (k : Nat) (l0 : List (S45)) (a1 : ByteArray) : Option ((List (S45))) := lamplighterref12_Without.l0 k l0 a1 ([] : List (S45)) 0
theorem lamplighterref12_Without.mono_l : ∀ k, (∀ y0 y1 y2 y3, LeO (lamplighterref12_Without.l0 k y0 y1 y2 y3) (lamplighterref12_Without.l0 (k + 1) y0 y1 y2 y3))
  | 0 => fun _ _ _ _ r h => by simp [lamplighterref12_Without.l0] at h
  | k + 1 => by
    have ih0 := lamplighterref12_Without.mono_l k
    · intro y0 y1 y2 y3
      unfold lamplighterref12_Without.l0
      repeat' first
      | (with_reducible exact ih0 _ _ _ _)
      | (with_reducible exact LeO.refl _)
      | (with_reducible exact LeO.none _)
      | (with_reducible refine LeO.ite ?_ ?_)
      | (with_reducible refine LeO.bind ?_ (fun _ => ?_))
      | exact ih0 _ _ _ _
      | exact LeO.none _
      | refine LeO.ite ?_ ?_
      | refine LeO.bind ?_ (fun _ => ?_)
theorem lamplighterref12_Without.mono : ∀ a0 a1 k, LeO (lamplighterref12_Without.f k a0 a1) (lamplighterref12_Without.f (k + 1) a0 a1) := by
  intro a0 a1 k
  have ih0 := lamplighterref12_Without.mono_l k
  unfold lamplighterref12_Without.f
  repeat' first
      | (with_reducible exact ih0 _ _ _ _)
      | (with_reducible exact LeO.refl _)
      | (with_reducible exact LeO.none _)
      | (with_reducible refine LeO.ite ?_ ?_)
      | (with_reducible refine LeO.bind ?_ (fun _ => ?_))
      | exact ih0 _ _ _ _
      | exact LeO.none _
      | refine LeO.ite ?_ ?_
      | refine LeO.bind ?_ (fun _ => ?_)
set_option maxHeartbeats 8000000 in
set_option maxRecDepth 100000 in
theorem lamplighterref12_Without.calls (k : Nat) (A0 : Option Addr) (c0 : Nat) (l0 : List (S45)) (a1 : ByteArray) (r : List (S45)) (w : World) (hr0 : Kd.C k45 w A0 l0.length l0) (hc0 : l0.length ≤ c0) (h : lamplighterref12_Without.f k l0 a1 = some r) :
    Calls Tryz.prog 16 #[.slice A0 l0.length c0, .string a1] w fun e w' => ∃ v0_ : Value, e = .returned (v0_) ∧ Kd.R k45 45 w' w.heap.size (fun _ => True) v0_ r ∧ Below w.heap.size w w' := by
  have hu45 := Tryz.underlying45
  have HR0 := Aside0.mk hr0
  have HC0 := Aside0.mk hc0
  clear hr0 hc0
  have HB := Aside0.mk (Below.refl w.heap.size w)
  have H : (lamplighterref12_Without.l0 k l0 a1 ([] : List (S45)) 0) = some r := h
  clear h
  have H' := Aside0.mk H
  clear H
  go_enter Tryz.func16, Tryz.ntmps16
  go_wp2
  go_loopg [5, 6] k (fun kq v5 v6 w' => ∃ (x5_1 : List (S45)) (x6_1 : Int), v6 = .int .i64 x6_1 ∧ Aside0 (lamplighterref12_Without.l0 kq l0 a1 x5_1 x6_1 = some r) ∧ Aside0 (kq ≤ k) ∧ Aside0 (Kd.R k45 45 w' w.heap.size (fun _ => True) v5 x5_1) ∧ Aside0 (Below w.heap.size w w'))
  case atStart => exact ⟨(([] : List (S45))), (0), (by first | rfl | (simp; done) | (simp [*]; done)), H', ⟨Nat.le_refl _⟩, ⟨by first | exact Kd.R_nil _ _ _ _ _ | exact Kd.N_nil _ _ _ _ _ | exact Kd.V_nil _ _ _ _ _ | exact Kd.Q_nil _ _ _ _ _ | exact Kd.S_nil _ _ _ _ _⟩, ⟨by repeat (first | (with_reducible first | exact HB.out | apply below_alloc | apply pw_below_drewN | apply below_drew1) | exact HB.out)⟩⟩
  case round =>
    clear H'
    try clear c1
    try clear p2
    obtain ⟨x5_1, x6_1, rfl, HA, HK1, HO_5, HB⟩ := hrel
    cases gk with
    | zero => exact absurd HA.out (by simp [lamplighterref12_Without.l0])
    | succ k1 =>
      have H := HA.out
      clear HA
      simp only [lamplighterref12_Without.l0] at H
      by_cases c3 : x6_1 < (l0.length : Int)
      · rw [if_pos c3] at H
        have c3b0 : decide (x6_1 < (l0.length : Int)) = true := decide_eq_true c3
        clear c3
        by_cases c4 : 0 ≤ x6_1
        · rw [if_pos c4] at H
          have c4b0 : decide (0 ≤ x6_1) = true := decide_eq_true c4
          clear c4
          by_cases c5 : ((rd_T45 l0 x6_1).f0).toList = a1.toList
          · rw [if_pos c5] at H
            have c5b0 : (((rd_T45 l0 x6_1).f0).toList == a1.toList) = true := beq_iff_eq.mpr c5
            have c5b1 : (((rd_T45 l0 x6_1).f0).toList != a1.toList) = false := bne_eq_false_iff_eq.mpr c5
            clear c5
            have H' := Aside0.mk H
            clear H
            have p155 : 0 ≤ (x6_1 : Int) := of_decide_eq_true (by first | (with_reducible assumption) | assumption)
            have q155 : x6_1 < (l0.length : Int) := of_decide_eq_true (by first | (with_reducible assumption) | assumption)
            obtain ⟨ad155, e155, hx155_0, hx155_1⟩ := at_T45 HR0.out x6_1 p155 q155
            cases e155
            replace hx155_0 := (HB.out.cell (World.block_lt_of_cell? w _ hx155_0)).trans hx155_0
            replace hx155_1 := (HB.out.cell (World.block_lt_of_cell? w _ hx155_1)).trans hx155_1
            replace p155 := eq_true p155
            replace q155 := eq_true q155
            go_wp2
            go_roundg k1
            case measure => have := HK1.out; omega
            case rel => exact ⟨(x5_1), (wrap64 (x6_1 + 1)), (by first | rfl | (simp; done) | (simp [*]; done)), H', ⟨by have := HK1.out; omega⟩, ⟨by (with_reducible repeat (first | apply Kd.R_alloc | apply Kd.R_drewN | apply Kd.R_drew)); exact HO_5.out⟩, ⟨by repeat (first | (with_reducible first | exact HB.out | apply below_alloc | apply pw_below_drewN | apply below_drew1) | exact HB.out)⟩⟩
          · rw [if_neg c5] at H
            have c5b0 : (((rd_T45 l0 x6_1).f0).toList == a1.toList) = false := beq_eq_false_iff_ne.mpr c5
            have c5b1 : (((rd_T45 l0 x6_1).f0).toList != a1.toList) = true := bne_iff_ne.mpr c5
            by_cases c6 : x5_1.length < 4398046511104
            · rw [if_pos c6] at H
              have LMc6 := Aside0.mk c6
              clear c6
              obtain ⟨y157, hy157⟩ : ∃ y_ : List (S45), y_ = (x5_1 ++ [(⟨(rd_T45 l0 x6_1).f0, (rd_T45 l0 x6_1).f1⟩ : S45)]) := ⟨_, rfl⟩
              replace H : (lamplighterref12_Without.l0 k1 l0 a1 y157 (wrap64 (x6_1 + 1))) = some r := by first | (rw [hy157]; with_reducible exact H) | (have H2_ := (Option.bind_some _ _).symm.trans H; rw [hy157]; with_reducible exact H2_) | (have H2_ := (Option.bind_some _ _).symm.trans H; with_reducible exact H2_) | with_reducible exact H | (rw [hy157]; exact H) | exact H
              have Ny157 := Aside0.mk hy157
              clear hy157
              have H' := Aside0.mk H
              clear H
              have p155 : 0 ≤ (x6_1 : Int) := of_decide_eq_true (by first | (with_reducible assumption) | assumption)
              have q155 : x6_1 < (l0.length : Int) := of_decide_eq_true (by first | (with_reducible assumption) | assumption)
              obtain ⟨ad155, e155, hx155_0, hx155_1⟩ := at_T45 HR0.out x6_1 p155 q155
              cases e155
              replace hx155_0 := (HB.out.cell (World.block_lt_of_cell? w _ hx155_0)).trans hx155_0
              replace hx155_1 := (HB.out.cell (World.block_lt_of_cell? w _ hx155_1)).trans hx155_1
              replace p155 := eq_true p155
              replace q155 := eq_true q155
              have p156 : 0 ≤ (x6_1 : Int) := of_decide_eq_true (by first | (with_reducible assumption) | assumption)
              have q156 : x6_1 < (l0.length : Int) := of_decide_eq_true (by first | (with_reducible assumption) | assumption)
              obtain ⟨ad156, e156, hx156_0, hx156_1⟩ := at_T45 HR0.out x6_1 p156 q156
              obtain rfl : ad155 = ad156 := (by injection e156)
              replace hx156_0 := (HB.out.cell (World.block_lt_of_cell? w _ hx156_0)).trans hx156_0
              replace hx156_1 := (HB.out.cell (World.block_lt_of_cell? w _ hx156_1)).trans hx156_1
              replace p156 := eq_true p156
              replace q156 := eq_true q156
              go_wp2_with (first | ((with_reducible refine gate_builtin (b := .append) (xs := #[.tmp 20, .tmp 25]) rfl ?_); at_builtin; refine Kd.R_append k45 (w0 := w) w.heap.size rfl (.tmp 20) (.tmp 25) 23 45 (.agg #[(.string ⟨#[]⟩), (.string ⟨#[]⟩)]) 32 rfl Tryz.underlying23 info45 rfl (by decide) (by omega) u5 x5_1 (⟨(rd_T45 l0 x6_1).f0, (rd_T45 l0 x6_1).f1⟩ : S45) [.string ((rd_T45 l0 x6_1).f0), .string ((rd_T45 l0 x6_1).f1)] (fun _ => True) (fun _ => False) rfl rfl ?aP (fun _ hk => hk.elim) ?aF ?aO ?aB ?aS ?aL ?_; (case aP => exact k45_mkM _ _ _ (⟨(rd_T45 l0 x6_1).f0, (rd_T45 l0 x6_1).f1⟩ : S45)); (case aB => exact (by repeat (first | (with_reducible first | exact HB.out | apply below_alloc | apply pw_below_drewN | apply below_drew1) | exact HB.out))); (case aF => exact (fun _ _ => trivial)); (case aO => exact (by (with_reducible repeat (first | apply Kd.R_alloc | apply Kd.R_drewN | apply Kd.R_drew)); exact HO_5.out)); (case aS => exact (below_size (by repeat (first | (with_reducible first | exact HB.out | apply below_alloc | apply pw_below_drewN | apply below_drew1) | exact HB.out)))); (case aL => have := LMc6.out; omega); intro v158 w7 ho hb hg hat; rw [← Ny157.out] at ho; have n0_ := Aside0.mk (hb); have n1_ := Aside0.mk (ho); clear HB; clear HO_5; have HB := n0_; have HO159 := n1_; clear n0_ n1_; clear ho hb hg hat))
              go_roundg k1
              case measure => have := HK1.out; omega
              case rel => exact ⟨(y157), (wrap64 (x6_1 + 1)), (by first | rfl | (simp; done) | (simp [*]; done)), H', ⟨by have := HK1.out; omega⟩, ⟨by (with_reducible repeat (first | apply Kd.R_alloc | apply Kd.R_drewN | apply Kd.R_drew)); exact HO159.out⟩, ⟨by repeat (first | (with_reducible first | exact HB.out | apply below_alloc | apply pw_below_drewN | apply below_drew1) | exact HB.out)⟩⟩
            · rw [if_neg c6] at H
              exact absurd H (by simp)
        · rw [if_neg c4] at H
          exact absurd H (by simp)
      · rw [if_neg c3] at H
        have c3b0 : decide (x6_1 < (l0.length : Int)) = false := decide_eq_false c3
        clear c3
        obtain rfl := Option.some.inj H
        go_wp2
        go_ret
        exact ⟨_, by first | rfl | (simp [errW_none, errW_some] <;> rfl) | (simp [*, errW_none, errW_some] <;> rfl), by (with_reducible repeat (first | apply Kd.R_alloc | apply Kd.R_drewN | apply Kd.R_drew)); exact HO_5.out, by repeat (first | (with_reducible first | exact HB.out | apply below_alloc | apply pw_below_drewN | apply below_drew1) | exact HB.out)⟩

/-! ### lamplighterref12_With: function 14 -/
def lamplighterref12_With.l0 : Nat → ByteArray → ByteArray → List (S45) → List (S45) → Bool → Int → Option ((List (S45)))
  | 0, _, _, _, _, _, _ => none
  | k + 1, x1, x2, x7, x8, x9, x10 => if x10 < (x7.length : Int) then (if 0 ≤ x10 then (if (Op.bytesLess x1.toList (((rd_T45 x7 x10).f0).toList)) = true then (if x9 = true then (if x8.length < 4398046511104 then (lamplighterref12_With.l0 k x1 x2 x7 (x8 ++ [(⟨(rd_T45 x7 x10).f0, (rd_T45 x7 x10).f1⟩ : S45)]) x9 (wrap64 (x10 + 1))) else (none)) else (if x8.length < 4398046511104 then ((some (x8 ++ [(⟨x1, x2⟩ : S45)] : List (S45))).bind fun y168 => (if y168.length < 4398046511104 then (lamplighterref12_With.l0 k x1 x2 x7 (y168 ++ [(⟨(rd_T45 x7 x10).f0, (rd_T45 x7 x10).f1⟩ : S45)]) true (wrap64 (x10 + 1))) else (none))) else (none))) else (if x8.length < 4398046511104 then (lamplighterref12_With.l0 k x1 x2 x7 (x8 ++ [(⟨(rd_T45 x7 x10).f0, (rd_T45 x7 x10).f1⟩ : S45)]) x9 (wrap64 (x10 + 1))) else (none))) else (none)) else (if x9 = true then (some x8) else (if x8.length < 4398046511104 then (some (x8 ++ [(⟨x1, x2⟩ : S45)])) else (none)))
def lamplighterref12_With.f (k : Nat) (l0 : List (S45)) (a1 : ByteArray) (a2 : ByteArray) : Option ((List (S45))) := (lamplighterref12_Without.f k l0 a1).bind fun t160 => (lamplighterref12_With.l0 k a1 a2 t160 ([] : List (S45)) false 0)
theorem lamplighterref12_With.mono_l : ∀ k, (∀ y0 y1 y2 y3 y4 y5, LeO (lamplighterref12_With.l0 k y0 y1 y2 y3 y4 y5) (lamplighterref12_With.l0 (k + 1) y0 y1 y2 y3 y4 y5))
  | 0 => fun _ _ _ _ _ _ r h => by simp [lamplighterref12_With.l0] at h
  | k + 1 => by
    have ih0 := lamplighterref12_With.mono_l k
    · intro y0 y1 y2 y3 y4 y5
      unfold lamplighterref12_With.l0
      repeat' first
      | (with_reducible exact ih0 _ _ _ _ _ _)
      | (with_reducible exact lamplighterref12_Without.mono _ _ _)
      | (with_reducible exact LeO.refl _)
      | (with_reducible exact LeO.none _)
      | (with_reducible refine LeO.ite ?_ ?_)
      | (with_reducible refine LeO.bind ?_ (fun _ => ?_))
      | exact ih0 _ _ _ _ _ _
      | exact lamplighterref12_Without.mono _ _ _
      | exact LeO.none _
      | refine LeO.ite ?_ ?_
      | refine LeO.bind ?_ (fun _ => ?_)
theorem lamplighterref12_With.mono : ∀ a0 a1 a2 k, LeO (lamplighterref12_With.f k a0 a1 a2) (lamplighterref12_With.f (k + 1) a0 a1 a2) := by
  intro a0 a1 a2 k
  have ih0 := lamplighterref12_With.mono_l k
  unfold lamplighterref12_With.f
  repeat' first
      | (with_reducible exact ih0 _ _ _ _ _ _)
      | (with_reducible exact lamplighterref12_Without.mono _ _ _)
      | (with_reducible exact LeO.refl _)
      | (with_reducible exact LeO.none _)
      | (with_reducible refine LeO.ite ?_ ?_)
      | (with_reducible refine LeO.bind ?_ (fun _ => ?_))
      | exact ih0 _ _ _ _ _ _
      | exact lamplighterref12_Without.mono _ _ _
      | exact LeO.none _
      | refine LeO.ite ?_ ?_
      | refine LeO.bind ?_ (fun _ => ?_)
set_option maxHeartbeats 8000000 in
set_option maxRecDepth 100000 in
theorem lamplighterref12_With.calls (k : Nat) (A0 : Option Addr) (c0 : Nat) (l0 : List (S45)) (a1 : ByteArray) (a2 : ByteArray) (r : List (S45)) (w : World) (hr0 : Kd.C k45 w A0 l0.length l0) (hc0 : l0.length ≤ c0) (h : lamplighterref12_With.f k l0 a1 a2 = some r) :
    Calls Tryz.prog 14 #[.slice A0 l0.length c0, .string a1, .string a2] w fun e w' => ∃ v0_ : Value, e = .returned (v0_) ∧ Kd.R k45 45 w' w.heap.size (fun _ => True) v0_ r ∧ Below w.heap.size w w' := by
  have hu45 := Tryz.underlying45
  have HR0 := Aside0.mk hr0
  have HC0 := Aside0.mk hc0
  clear hr0 hc0
  have HB := Aside0.mk (Below.refl w.heap.size w)
  have H : ((lamplighterref12_Without.f k l0 a1).bind fun t160 => (lamplighterref12_With.l0 k a1 a2 t160 ([] : List (S45)) false 0)) = some r := h
  clear h
  replace H := Option.bind_eq_some_iff.mp H
  obtain ⟨t160, A40, H⟩ := H
  replace H : (lamplighterref12_With.l0 k a1 a2 t160 ([] : List (S45)) false 0) = some r := H
  have A4 := Aside0.mk A40
  clear A40
  have H' := Aside0.mk H
  clear H
  go_enter Tryz.func14, Tryz.ntmps14
  go_wp2_with (first | ((with_reducible refine gate_callee (f := 16) rfl ?_); refine goesL_ (some 13) rfl rfl Tryz.func16 (by kernel_rfl) rfl #[.slice A0 l0.length c0, .string a1] rfl (by (try simp only [List.map_toArray, List.map_cons, List.map_nil]); first | done | rfl | (simp only [List.length_drop, List.length_take]; rfl)) ?_; (with_reducible refine (lamplighterref12_Without.calls k _ _ l0 a1 t160 _ ?side1 ?side2 A4.out).mono ?_); (case side1 => repeat (first | exact HR0.out | (with_reducible refine Kd.C_alloc ?_ _) | (with_reducible refine Kd.C_drewN ?_ _) | (with_reducible refine Kd.C_drew ?_))); (case side2 => exact HC0.out); rintro e w5 ⟨v161, rfl, ho0, hb⟩; refine ⟨_, rfl, ?_⟩; have n0_ := Aside0.mk (Kd.R_lower ho0 (below_size (by repeat (first | (with_reducible first | exact HB.out | apply below_alloc | apply pw_below_drewN | apply below_drew1) | exact HB.out)))); have n1_ := Aside0.mk (below_step (by repeat (first | (with_reducible first | exact HB.out | apply below_alloc | apply pw_below_drewN | apply below_drew1) | exact HB.out)) hb); clear HB; have HO162 := n0_; have HB := n1_; clear n0_ n1_; (try clear hb); (try clear hb2); (try clear hk); (try clear hi); (try clear ho0)))
  go_loopg [8, 9, 10] k (fun kq v8 v9 v10 w' => ∃ (x8_1 : List (S45)) (x9_1 : Bool) (x10_1 : Int), v9 = .bool x9_1 ∧ v10 = .int .i64 x10_1 ∧ Aside0 (lamplighterref12_With.l0 kq a1 a2 t160 x8_1 x9_1 x10_1 = some r) ∧ Aside0 (kq ≤ k) ∧ Aside0 (Kd.R k45 45 w' w.heap.size (fun k_ => some k_ ≠ (v8 : Value).ownBlock) v161 t160) ∧ Aside0 (Kd.R k45 45 w' w.heap.size (fun k_ => some k_ ≠ (v161 : Value).ownBlock) v8 x8_1) ∧ Aside0 (Below w.heap.size w w'))
  case atStart => exact ⟨(([] : List (S45))), (false), (0), (by first | rfl | (simp; done) | (simp [*]; done)), (by first | rfl | (simp; done) | (simp [*]; done)), H', ⟨Nat.le_refl _⟩, ⟨by (with_reducible repeat (first | apply Kd.R_alloc | apply Kd.R_drewN | apply Kd.R_drew)); exact Kd.R_mono HO162.out (fun _ hk => (by simp [Value.ownBlock]))⟩, ⟨by first | exact Kd.R_nil _ _ _ _ _ | exact Kd.N_nil _ _ _ _ _ | exact Kd.V_nil _ _ _ _ _ | exact Kd.Q_nil _ _ _ _ _ | exact Kd.S_nil _ _ _ _ _⟩, ⟨by repeat (first | (with_reducible first | exact HB.out | apply below_alloc | apply pw_below_drewN | apply below_drew1) | exact HB.out)⟩⟩
  case round =>
    clear H'
    try clear c1
    try clear p2
    obtain ⟨x8_1, x9_1, x10_1, rfl, rfl, HA, HK1, HO_7, HO_8, HB⟩ := hrel
    cases gk with
    | zero => exact absurd HA.out (by simp [lamplighterref12_With.l0])
    | succ k1 =>
      have H := HA.out
      clear HA
      simp only [lamplighterref12_With.l0] at H
      by_cases c6 : x10_1 < (t160.length : Int)
      · rw [if_pos c6] at H
        have c6b0 : decide (x10_1 < (t160.length : Int)) = true := decide_eq_true c6
        clear c6
        by_cases c7 : 0 ≤ x10_1
        · rw [if_pos c7] at H
          have c7b0 : decide (0 ≤ x10_1) = true := decide_eq_true c7
          clear c7
          by_cases c8 : (Op.bytesLess a1.toList (((rd_T45 t160 x10_1).f0).toList)) = true
          · rw [if_pos c8] at H
            have c8b0 : (Op.bytesLess a1.toList (((rd_T45 t160 x10_1).f0).toList)) = true := c8
            clear c8
            by_cases c9 : x9_1 = true
            · subst c9
              have H1 : (if x8_1.length < 4398046511104 then (lamplighterref12_With.l0 k1 a1 a2 t160 (x8_1 ++ [(⟨(rd_T45 t160 x10_1).f0, (rd_T45 t160 x10_1).f1⟩ : S45)]) true (wrap64 (x10_1 + 1))) else (none)) = some r := by rw [if_pos rfl] at H; exact H
              clear H
              have H := H1
              clear H1
              by_cases c10 : x8_1.length < 4398046511104
              · rw [if_pos c10] at H
                have LMc10 := Aside0.mk c10
                clear c10
                obtain ⟨y165, hy165⟩ : ∃ y_ : List (S45), y_ = (x8_1 ++ [(⟨(rd_T45 t160 x10_1).f0, (rd_T45 t160 x10_1).f1⟩ : S45)]) := ⟨_, rfl⟩
                replace H : (lamplighterref12_With.l0 k1 a1 a2 t160 y165 true (wrap64 (x10_1 + 1))) = some r := by first | (rw [hy165]; with_reducible exact H) | (have H2_ := (Option.bind_some _ _).symm.trans H; rw [hy165]; with_reducible exact H2_) | (have H2_ := (Option.bind_some _ _).symm.trans H; with_reducible exact H2_) | with_reducible exact H | (rw [hy165]; exact H) | exact H
                have Ny165 := Aside0.mk hy165
                clear hy165
                have H' := Aside0.mk H
                clear H
                obtain ⟨Ao11, co11, eo11⟩ := Kd.R_slice HO_7.out
                subst eo11
                have p163 : 0 ≤ (x10_1 : Int) := of_decide_eq_true (by first | (with_reducible assumption) | assumption)
                have q163 : x10_1 < (t160.length : Int) := of_decide_eq_true (by first | (with_reducible assumption) | assumption)
                obtain ⟨ad163, e163, hx163_0, hx163_1⟩ := at_T45 (Kd.R_reads' HO_7.out).2.2 x10_1 p163 q163
                cases e163
                replace p163 := eq_true p163
                replace q163 := eq_true q163
                have p164 : 0 ≤ (x10_1 : Int) := of_decide_eq_true (by first | (with_reducible assumption) | assumption)
                have q164 : x10_1 < (t160.length : Int) := of_decide_eq_true (by first | (with_reducible assumption) | assumption)
                obtain ⟨ad164, e164, hx164_0, hx164_1⟩ := at_T45 (Kd.R_reads' HO_7.out).2.2 x10_1 p164 q164
                obtain rfl : ad163 = ad164 := (by injection e164)
                replace p164 := eq_true p164
                replace q164 := eq_true q164
                go_wp2_with (first | ((with_reducible refine gate_builtin (b := .append) (xs := #[.tmp 37, .tmp 42]) rfl ?_); at_builtin; refine Kd.R_append k45 (w0 := w) w.heap.size rfl (.tmp 37) (.tmp 42) 23 45 (.agg #[(.string ⟨#[]⟩), (.string ⟨#[]⟩)]) 32 rfl Tryz.underlying23 info45 rfl (by decide) (by omega) u8 x8_1 (⟨(rd_T45 t160 x10_1).f0, (rd_T45 t160 x10_1).f1⟩ : S45) [.string ((rd_T45 t160 x10_1).f0), .string ((rd_T45 t160 x10_1).f1)] (fun k_ => some k_ ≠ (.slice (some ad163) t160.length co11 : Value).ownBlock) (fun _ => False) rfl rfl ?aP (fun _ hk => hk.elim) ?aF ?aO ?aB ?aS ?aL ?_; (case aP => exact k45_mkM _ _ _ (⟨(rd_T45 t160 x10_1).f0, (rd_T45 t160 x10_1).f1⟩ : S45)); (case aB => exact (by repeat (first | (with_reducible first | exact HB.out | apply below_alloc | apply pw_below_drewN | apply below_drew1) | exact HB.out))); (case aF => exact (fun k_ hk => Kd.fresh' (Kd.R_lt (by (with_reducible repeat (first | apply Kd.R_alloc | apply Kd.R_drewN | apply Kd.R_drew)); exact HO_7.out)) k_ hk)); (case aO => exact (by (with_reducible repeat (first | apply Kd.R_alloc | apply Kd.R_drewN | apply Kd.R_drew)); exact HO_8.out)); (case aS => exact (below_size (by repeat (first | (with_reducible first | exact HB.out | apply below_alloc | apply pw_below_drewN | apply below_drew1) | exact HB.out)))); (case aL => have := LMc10.out; omega); intro v166 w12 ho hb hg hat; rw [← Ny165.out] at ho; have n0_ := Aside0.mk (Kd.R_after (ok := (fun _ => True)) (by (with_reducible repeat (first | apply Kd.R_alloc | apply Kd.R_drewN | apply Kd.R_drew)); exact Kd.R_mono HO_7.out (fun _ hk => ⟨trivial, hk⟩)) hg hat); have n1_ := Aside0.mk (hb); have n2_ := Aside0.mk (ho); clear HO_7; clear HB; clear HO_8; have HO_7 := n0_; have HB := n1_; have HO167 := n2_; clear n0_ n1_ n2_; clear ho hb hg hat))
                go_roundg k1
                case measure => have := HK1.out; omega
                case rel => exact ⟨(y165), (true), (wrap64 (x10_1 + 1)), (by first | rfl | (simp; done) | (simp [*]; done)), (by first | rfl | (simp; done) | (simp [*]; done)), H', ⟨by have := HK1.out; omega⟩, ⟨by (with_reducible repeat (first | apply Kd.R_alloc | apply Kd.R_drewN | apply Kd.R_drew)); exact Kd.R_mono HO_7.out (fun _ hk => hk.2)⟩, ⟨by (with_reducible repeat (first | apply Kd.R_alloc | apply Kd.R_drewN | apply Kd.R_drew)); exact HO167.out⟩, ⟨by repeat (first | (with_reducible first | exact HB.out | apply below_alloc | apply pw_below_drewN | apply below_drew1) | exact HB.out)⟩⟩
              · rw [if_neg c10] at H
                exact absurd H (by simp)
            · replace c9 := Bool.eq_false_iff.mpr c9
              subst c9
              have H1 : (if x8_1.length < 4398046511104 then ((some (x8_1 ++ [(⟨a1, a2⟩ : S45)] : List (S45))).bind fun y168 => (if y168.length < 4398046511104 then (lamplighterref12_With.l0 k1 a1 a2 t160 (y168 ++ [(⟨(rd_T45 t160 x10_1).f0, (rd_T45 t160 x10_1).f1⟩ : S45)]) true (wrap64 (x10_1 + 1))) else (none))) else (none)) = some r := by rw [if_neg (show ¬ (false = true) by decide)] at H; exact H
              clear H
              have H := H1
              clear H1
              by_cases c13 : x8_1.length < 4398046511104
              · rw [if_pos c13] at H
                have LMc13 := Aside0.mk c13
                clear c13
                obtain ⟨y168, hy168⟩ : ∃ y_ : List (S45), y_ = (x8_1 ++ [(⟨a1, a2⟩ : S45)]) := ⟨_, rfl⟩
                replace H : (if y168.length < 4398046511104 then (lamplighterref12_With.l0 k1 a1 a2 t160 (y168 ++ [(⟨(rd_T45 t160 x10_1).f0, (rd_T45 t160 x10_1).f1⟩ : S45)]) true (wrap64 (x10_1 + 1))) else (none)) = some r := by first | (rw [hy168]; with_reducible exact H) | (have H2_ := (Option.bind_some _ _).symm.trans H; rw [hy168]; with_reducible exact H2_) | (have H2_ := (Option.bind_some _ _).symm.trans H; with_reducible exact H2_) | with_reducible exact H | (rw [hy168]; exact H) | exact H
                have Ny168 := Aside0.mk hy168
                clear hy168
                by_cases c14 : y168.length < 4398046511104
                · rw [if_pos c14] at H
                  have LMc14 := Aside0.mk c14
                  clear c14
                  obtain ⟨y172, hy172⟩ : ∃ y_ : List (S45), y_ = (y168 ++ [(⟨(rd_T45 t160 x10_1).f0, (rd_T45 t160 x10_1).f1⟩ : S45)]) := ⟨_, rfl⟩
                  replace H : (lamplighterref12_With.l0 k1 a1 a2 t160 y172 true (wrap64 (x10_1 + 1))) = some r := by first | (rw [hy172]; with_reducible exact H) | (have H2_ := (Option.bind_some _ _).symm.trans H; rw [hy172]; with_reducible exact H2_) | (have H2_ := (Option.bind_some _ _).symm.trans H; with_reducible exact H2_) | with_reducible exact H | (rw [hy172]; exact H) | exact H
                  have Ny172 := Aside0.mk hy172
                  clear hy172
                  have H' := Aside0.mk H
                  clear H
                  obtain ⟨Ao15, co15, eo15⟩ := Kd.R_slice HO_7.out
                  subst eo15
                  have p163 : 0 ≤ (x10_1 : Int) := of_decide_eq_true (by first | (with_reducible assumption) | assumption)
                  have q163 : x10_1 < (t160.length : Int) := of_decide_eq_true (by first | (with_reducible assumption) | assumption)
                  obtain ⟨ad163, e163, hx163_0, hx163_1⟩ := at_T45 (Kd.R_reads' HO_7.out).2.2 x10_1 p163 q163
                  cases e163
                  replace p163 := eq_true p163
                  replace q163 := eq_true q163
                  go_wp2_with (first | ((with_reducible refine gate_builtin (b := .append) (xs := #[.tmp 31, .tmp 35]) rfl ?_); at_builtin; refine Kd.R_append k45 (w0 := w) w.heap.size rfl (.tmp 31) (.tmp 35) 23 45 (.agg #[(.string ⟨#[]⟩), (.string ⟨#[]⟩)]) 32 rfl Tryz.underlying23 info45 rfl (by decide) (by omega) u8 x8_1 (⟨a1, a2⟩ : S45) [.string a1, .string a2] (fun k_ => some k_ ≠ (.slice (some ad163) t160.length co15 : Value).ownBlock) (fun _ => False) rfl rfl ?aP (fun _ hk => hk.elim) ?aF ?aO ?aB ?aS ?aL ?_; (case aP => exact k45_mkM _ _ _ (⟨a1, a2⟩ : S45)); (case aB => exact (by repeat (first | (with_reducible first | exact HB.out | apply below_alloc | apply pw_below_drewN | apply below_drew1) | exact HB.out))); (case aF => exact (fun k_ hk => Kd.fresh' (Kd.R_lt (by (with_reducible repeat (first | apply Kd.R_alloc | apply Kd.R_drewN | apply Kd.R_drew)); exact HO_7.out)) k_ hk)); (case aO => exact (by (with_reducible repeat (first | apply Kd.R_alloc | apply Kd.R_drewN | apply Kd.R_drew)); exact HO_8.out)); (case aS => exact (below_size (by repeat (first | (with_reducible first | exact HB.out | apply below_alloc | apply pw_below_drewN | apply below_drew1) | exact HB.out)))); (case aL => have := LMc13.out; omega); intro v169 w16 ho hb hg hat; rw [← Ny168.out] at ho; have n0_ := Aside0.mk (Kd.R_after (ok := (fun _ => True)) (by (with_reducible repeat (first | apply Kd.R_alloc | apply Kd.R_drewN | apply Kd.R_drew)); exact Kd.R_mono HO_7.out (fun _ hk => ⟨trivial, hk⟩)) hg hat); have n1_ := Aside0.mk (hb); have n2_ := Aside0.mk (ho); clear HO_7; clear HB; clear HO_8; have HO_7 := n0_; have HB := n1_; have HO170 := n2_; clear n0_ n1_ n2_; clear ho hb hg hat; have p171 : 0 ≤ (x10_1 : Int) := of_decide_eq_true (by first | (with_reducible assumption) | assumption); have q171 : x10_1 < (t160.length : Int) := of_decide_eq_true (by first | (with_reducible assumption) | assumption); obtain ⟨ad171, e171, hx171_0, hx171_1⟩ := at_T45 (Kd.R_reads' HO_7.out).2.2 x10_1 p171 q171; obtain rfl : ad163 = ad171 := (by injection e171); replace p171 := eq_true p171; replace q171 := eq_true q171) | ((with_reducible refine gate_builtin (b := .append) (xs := #[.tmp 37, .tmp 42]) rfl ?_); at_builtin; refine Kd.R_append k45 (w0 := w) w.heap.size rfl (.tmp 37) (.tmp 42) 23 45 (.agg #[(.string ⟨#[]⟩), (.string ⟨#[]⟩)]) 32 rfl Tryz.underlying23 info45 rfl (by decide) (by omega) v169 y168 (⟨(rd_T45 t160 x10_1).f0, (rd_T45 t160 x10_1).f1⟩ : S45) [.string ((rd_T45 t160 x10_1).f0), .string ((rd_T45 t160 x10_1).f1)] (fun k_ => some k_ ≠ (.slice (some ad163) t160.length co15 : Value).ownBlock) (fun _ => False) rfl rfl ?aP (fun _ hk => hk.elim) ?aF ?aO ?aB ?aS ?aL ?_; (case aP => exact k45_mkM _ _ _ (⟨(rd_T45 t160 x10_1).f0, (rd_T45 t160 x10_1).f1⟩ : S45)); (case aB => exact (by repeat (first | (with_reducible first | exact HB.out | apply below_alloc | apply pw_below_drewN | apply below_drew1) | exact HB.out))); (case aF => exact (fun k_ hk => Kd.fresh' (Kd.R_lt (by (with_reducible repeat (first | apply Kd.R_alloc | apply Kd.R_drewN | apply Kd.R_drew)); exact HO_7.out)) k_ hk)); (case aO => exact (by (with_reducible repeat (first | apply Kd.R_alloc | apply Kd.R_drewN | apply Kd.R_drew)); exact HO170.out)); (case aS => exact (below_size (by repeat (first | (with_reducible first | exact HB.out | apply below_alloc | apply pw_below_drewN | apply below_drew1) | exact HB.out)))); (case aL => have := LMc14.out; omega); intro v173 w17 ho hb hg hat; rw [← Ny172.out] at ho; have n0_ := Aside0.mk (Kd.R_after (ok := (fun _ => True)) (by (with_reducible repeat (first | apply Kd.R_alloc | apply Kd.R_drewN | apply Kd.R_drew)); exact HO_7.out) hg hat); have n1_ := Aside0.mk (hb); have n2_ := Aside0.mk (ho); clear HO_7; clear HB; clear HO170; have HO_7 := n0_; have HB := n1_; have HO174 := n2_; clear n0_ n1_ n2_; clear ho hb hg hat))
                  go_roundg k1
                  case measure => have := HK1.out; omega
                  case rel => exact ⟨(y172), (true), (wrap64 (x10_1 + 1)), (by first | rfl | (simp; done) | (simp [*]; done)), (by first | rfl | (simp; done) | (simp [*]; done)), H', ⟨by have := HK1.out; omega⟩, ⟨by (with_reducible repeat (first | apply Kd.R_alloc | apply Kd.R_drewN | apply Kd.R_drew)); exact Kd.R_mono HO_7.out (fun _ hk => hk.2)⟩, ⟨by (with_reducible repeat (first | apply Kd.R_alloc | apply Kd.R_drewN | apply Kd.R_drew)); exact HO174.out⟩, ⟨by repeat (first | (with_reducible first | exact HB.out | apply below_alloc | apply pw_below_drewN | apply below_drew1) | exact HB.out)⟩⟩
                · rw [if_neg c14] at H
                  exact absurd H (by simp)
              · rw [if_neg c13] at H
                exact absurd H (by simp)
          · rw [if_neg c8] at H
            have c8b0 : (Op.bytesLess a1.toList (((rd_T45 t160 x10_1).f0).toList)) = false := by simpa using c8
            clear c8
            by_cases c18 : x8_1.length < 4398046511104
            · rw [if_pos c18] at H
              have LMc18 := Aside0.mk c18
              clear c18
              obtain ⟨y176, hy176⟩ : ∃ y_ : List (S45), y_ = (x8_1 ++ [(⟨(rd_T45 t160 x10_1).f0, (rd_T45 t160 x10_1).f1⟩ : S45)]) := ⟨_, rfl⟩
              replace H : (lamplighterref12_With.l0 k1 a1 a2 t160 y176 x9_1 (wrap64 (x10_1 + 1))) = some r := by first | (rw [hy176]; with_reducible exact H) | (have H2_ := (Option.bind_some _ _).symm.trans H; rw [hy176]; with_reducible exact H2_) | (have H2_ := (Option.bind_some _ _).symm.trans H; with_reducible exact H2_) | with_reducible exact H | (rw [hy176]; exact H) | exact H
              have Ny176 := Aside0.mk hy176
              clear hy176
              have H' := Aside0.mk H
              clear H
              obtain ⟨Ao19, co19, eo19⟩ := Kd.R_slice HO_7.out
              subst eo19
              have p163 : 0 ≤ (x10_1 : Int) := of_decide_eq_true (by first | (with_reducible assumption) | assumption)
              have q163 : x10_1 < (t160.length : Int) := of_decide_eq_true (by first | (with_reducible assumption) | assumption)
              obtain ⟨ad163, e163, hx163_0, hx163_1⟩ := at_T45 (Kd.R_reads' HO_7.out).2.2 x10_1 p163 q163
              cases e163
              replace p163 := eq_true p163
              replace q163 := eq_true q163
              have p175 : 0 ≤ (x10_1 : Int) := of_decide_eq_true (by first | (with_reducible assumption) | assumption)
              have q175 : x10_1 < (t160.length : Int) := of_decide_eq_true (by first | (with_reducible assumption) | assumption)
              obtain ⟨ad175, e175, hx175_0, hx175_1⟩ := at_T45 (Kd.R_reads' HO_7.out).2.2 x10_1 p175 q175
              obtain rfl : ad163 = ad175 := (by injection e175)
              replace p175 := eq_true p175
              replace q175 := eq_true q175
              go_wp2_with (first | ((with_reducible refine gate_builtin (b := .append) (xs := #[.tmp 37, .tmp 42]) rfl ?_); at_builtin; refine Kd.R_append k45 (w0 := w) w.heap.size rfl (.tmp 37) (.tmp 42) 23 45 (.agg #[(.string ⟨#[]⟩), (.string ⟨#[]⟩)]) 32 rfl Tryz.underlying23 info45 rfl (by decide) (by omega) u8 x8_1 (⟨(rd_T45 t160 x10_1).f0, (rd_T45 t160 x10_1).f1⟩ : S45) [.string ((rd_T45 t160 x10_1).f0), .string ((rd_T45 t160 x10_1).f1)] (fun k_ => some k_ ≠ (.slice (some ad163) t160.length co19 : Value).ownBlock) (fun _ => False) rfl rfl ?aP (fun _ hk => hk.elim) ?aF ?aO ?aB ?aS ?aL ?_; (case aP => exact k45_mkM _ _ _ (⟨(rd_T45 t160 x10_1).f0, (rd_T45 t160 x10_1).f1⟩ : S45)); (case aB => exact (by repeat (first | (with_reducible first | exact HB.out | apply below_alloc | apply pw_below_drewN | apply below_drew1) | exact HB.out))); (case aF => exact (fun k_ hk => Kd.fresh' (Kd.R_lt (by (with_reducible repeat (first | apply Kd.R_alloc | apply Kd.R_drewN | apply Kd.R_drew)); exact HO_7.out)) k_ hk)); (case aO => exact (by (with_reducible repeat (first | apply Kd.R_alloc | apply Kd.R_drewN | apply Kd.R_drew)); exact HO_8.out)); (case aS => exact (below_size (by repeat (first | (with_reducible first | exact HB.out | apply below_alloc | apply pw_below_drewN | apply below_drew1) | exact HB.out)))); (case aL => have := LMc18.out; omega); intro v177 w20 ho hb hg hat; rw [← Ny176.out] at ho; have n0_ := Aside0.mk (Kd.R_after (ok := (fun _ => True)) (by (with_reducible repeat (first | apply Kd.R_alloc | apply Kd.R_drewN | apply Kd.R_drew)); exact Kd.R_mono HO_7.out (fun _ hk => ⟨trivial, hk⟩)) hg hat); have n1_ := Aside0.mk (hb); have n2_ := Aside0.mk (ho); clear HO_7; clear HB; clear HO_8; have HO_7 := n0_; have HB := n1_; have HO178 := n2_; clear n0_ n1_ n2_; clear ho hb hg hat))
              go_roundg k1
              case measure => have := HK1.out; omega
              case rel => exact ⟨(y176), (x9_1), (wrap64 (x10_1 + 1)), (by first | rfl | (simp; done) | (simp [*]; done)), (by first | rfl | (simp; done) | (simp [*]; done)), H', ⟨by have := HK1.out; omega⟩, ⟨by (with_reducible repeat (first | apply Kd.R_alloc | apply Kd.R_drewN | apply Kd.R_drew)); exact Kd.R_mono HO_7.out (fun _ hk => hk.2)⟩, ⟨by (with_reducible repeat (first | apply Kd.R_alloc | apply Kd.R_drewN | apply Kd.R_drew)); exact HO178.out⟩, ⟨by repeat (first | (with_reducible first | exact HB.out | apply below_alloc | apply pw_below_drewN | apply below_drew1) | exact HB.out)⟩⟩
            · rw [if_neg c18] at H
              exact absurd H (by simp)
        · rw [if_neg c7] at H
          exact absurd H (by simp)
      · rw [if_neg c6] at H
        have c6b0 : decide (x10_1 < (t160.length : Int)) = false := decide_eq_false c6
        clear c6
        by_cases c21 : x9_1 = true
        · subst c21
          have H1 : (some x8_1) = some r := by rw [if_pos rfl] at H; exact H
          clear H
          have H := H1
          clear H1
          obtain rfl := Option.some.inj H
          obtain ⟨Ao22, co22, eo22⟩ := Kd.R_slice HO_7.out
          subst eo22
          go_wp2
          go_ret
          exact ⟨_, by first | rfl | (simp [errW_none, errW_some] <;> rfl) | (simp [*, errW_none, errW_some] <;> rfl), by (with_reducible repeat (first | apply Kd.R_alloc | apply Kd.R_drewN | apply Kd.R_drew)); exact Kd.R_mono HO_8.out (fun _ hk => trivial), by repeat (first | (with_reducible first | exact HB.out | apply below_alloc | apply pw_below_drewN | apply below_drew1) | exact HB.out)⟩
        · replace c21 := Bool.eq_false_iff.mpr c21
          subst c21
          have H1 : (if x8_1.length < 4398046511104 then (some (x8_1 ++ [(⟨a1, a2⟩ : S45)])) else (none)) = some r := by rw [if_neg (show ¬ (false = true) by decide)] at H; exact H
          clear H
          have H := H1
          clear H1
          by_cases c23 : x8_1.length < 4398046511104
          · rw [if_pos c23] at H
            have LMc23 := Aside0.mk c23
            clear c23
            obtain ⟨y179, hy179⟩ : ∃ y_ : List (S45), y_ = (x8_1 ++ [(⟨a1, a2⟩ : S45)]) := ⟨_, rfl⟩
            replace H : (some y179) = some r := by first | (rw [hy179]; with_reducible exact H) | (have H2_ := (Option.bind_some _ _).symm.trans H; rw [hy179]; with_reducible exact H2_) | (have H2_ := (Option.bind_some _ _).symm.trans H; with_reducible exact H2_) | with_reducible exact H | (rw [hy179]; exact H) | exact H
            have Ny179 := Aside0.mk hy179
            clear hy179
            obtain rfl := Option.some.inj H
            obtain ⟨Ao24, co24, eo24⟩ := Kd.R_slice HO_7.out
            subst eo24
            go_wp2_with (first | ((with_reducible refine gate_builtin (b := .append) (xs := #[.tmp 46, .tmp 50]) rfl ?_); at_builtin; refine Kd.R_append k45 (w0 := w) w.heap.size rfl (.tmp 46) (.tmp 50) 23 45 (.agg #[(.string ⟨#[]⟩), (.string ⟨#[]⟩)]) 32 rfl Tryz.underlying23 info45 rfl (by decide) (by omega) u8 x8_1 (⟨a1, a2⟩ : S45) [.string a1, .string a2] (fun k_ => some k_ ≠ (.slice Ao24 t160.length co24 : Value).ownBlock) (fun _ => False) rfl rfl ?aP (fun _ hk => hk.elim) ?aF ?aO ?aB ?aS ?aL ?_; (case aP => exact k45_mkM _ _ _ (⟨a1, a2⟩ : S45)); (case aB => exact (by repeat (first | (with_reducible first | exact HB.out | apply below_alloc | apply pw_below_drewN | apply below_drew1) | exact HB.out))); (case aF => exact (fun k_ hk => Kd.fresh' (Kd.R_lt (by (with_reducible repeat (first | apply Kd.R_alloc | apply Kd.R_drewN | apply Kd.R_drew)); exact HO_7.out)) k_ hk)); (case aO => exact (by (with_reducible repeat (first | apply Kd.R_alloc | apply Kd.R_drewN | apply Kd.R_drew)); exact HO_8.out)); (case aS => exact (below_size (by repeat (first | (with_reducible first | exact HB.out | apply below_alloc | apply pw_below_drewN | apply below_drew1) | exact HB.out)))); (case aL => have := LMc23.out; omega); intro v180 w25 ho hb hg hat; rw [← Ny179.out] at ho; have n0_ := Aside0.mk (Kd.R_after (ok := (fun _ => True)) (by (with_reducible repeat (first | apply Kd.R_alloc | apply Kd.R_drewN | apply Kd.R_drew)); exact Kd.R_mono HO_7.out (fun _ hk => ⟨trivial, hk⟩)) hg hat); have n1_ := Aside0.mk (hb); have n2_ := Aside0.mk (ho); clear HO_7; clear HB; clear HO_8; have HO_7 := n0_; have HB := n1_; have HO181 := n2_; clear n0_ n1_ n2_; clear ho hb hg hat))
            go_ret
            exact ⟨_, by first | rfl | (simp [errW_none, errW_some] <;> rfl) | (simp [*, errW_none, errW_some] <;> rfl), by (with_reducible repeat (first | apply Kd.R_alloc | apply Kd.R_drewN | apply Kd.R_drew)); exact Kd.R_mono HO181.out (fun _ hk => trivial), by repeat (first | (with_reducible first | exact HB.out | apply below_alloc | apply pw_below_drewN | apply below_drew1) | exact HB.out)⟩
          · rw [if_neg c23] at H
            exact absurd H (by simp)

/-! ### lamplighterlaw12_AmapTells: function 3 -/
mutual
def lamplighterlaw12_AmapTells.j0 : Nat → List Int → Int → List (S45) → ByteArray → ByteArray → Bool → Bool → Option (Bool)
  | 0, _, _, _, _, _, _, _ => none
  | k + 1, x0, x1, x2, x3, x4, x11, x43 => if x43 = true then (some x11) else ((amap_Own.f x0 x1).bind fun bt184 => ((lamplighterref12_Own.f k x0 x1).bind fun bt188 => ((amap_Pairs.f x0).bind fun bt192 => ((lamplighterref12_Pairs.f k x0).bind fun bt196 => ((amap_Get.f x2 x3).bind fun bt200 => ((lamplighterref12_Get.f k x2 x3).bind fun bt202 => ((lamplighterref12_Same.f k bt184.1 bt188.1).bind fun t204 => (if t204 = true then (if bt184.2 = bt188.2 then ((lamplighterref12_Same.f k bt192.1 bt196.1).bind fun t205 => (if t205 = true then (if bt192.2 = bt196.2 then (if bt200.1.toList = bt202.1.toList then (lamplighterlaw12_AmapTells.j1 k x2 x3 x4 x11 (bt200.2 == bt202.2)) else (lamplighterlaw12_AmapTells.j1 k x2 x3 x4 x11 false)) else (lamplighterlaw12_AmapTells.j1 k x2 x3 x4 x11 false)) else (lamplighterlaw12_AmapTells.j1 k x2 x3 x4 x11 false))) else (lamplighterlaw12_AmapTells.j1 k x2 x3 x4 x11 false)) else (lamplighterlaw12_AmapTells.j1 k x2 x3 x4 x11 false)))))))))
def lamplighterlaw12_AmapTells.j1 : Nat → List (S45) → ByteArray → ByteArray → Bool → Bool → Option (Bool)
  | 0, _, _, _, _, _ => none
  | k + 1, x2, x3, x4, x11, x24 => if x11 = true then (if x24 = true then ((amap_With.f x2 x3 x4).bind fun t206 => ((lamplighterref12_With.f k x2 x3 x4).bind fun t209 => ((lamplighterref12_Same.f k t206 t209).bind fun t212 => (if t212 = true then ((amap_Without.f x2 x3).bind fun t213 => ((lamplighterref12_Without.f k x2 x3).bind fun t216 => ((lamplighterref12_Same.f k t213 t216).bind fun t219 => (some t219)))) else (none))))) else (none)) else (none)
end
def lamplighterlaw12_AmapTells.f (k : Nat) (l0 : List Int) (a1 : Int) (l2 : List (S45)) (a3 : ByteArray) (a4 : ByteArray) : Option (Bool) := (lamplighterlaw12_awake.f).bind fun t182 => (if (l0.length : Int) > 1000 then (lamplighterlaw12_AmapTells.j0 k l0 a1 l2 a3 a4 t182 true) else ((lamplighterref12_Short.f k l2 200).bind fun t183 => (if t183 = true then (if (a3.size : Int) > 100 then (lamplighterlaw12_AmapTells.j0 k l0 a1 l2 a3 a4 t182 true) else (lamplighterlaw12_AmapTells.j0 k l0 a1 l2 a3 a4 t182 (decide ((a4.size : Int) > 100)))) else (lamplighterlaw12_AmapTells.j0 k l0 a1 l2 a3 a4 t182 true))))
theorem lamplighterlaw12_AmapTells.mono_l : ∀ k, (∀ y0 y1 y2 y3 y4 y5 y6, LeO (lamplighterlaw12_AmapTells.j0 k y0 y1 y2 y3 y4 y5 y6) (lamplighterlaw12_AmapTells.j0 (k + 1) y0 y1 y2 y3 y4 y5 y6)) ∧ (∀ y0 y1 y2 y3 y4, LeO (lamplighterlaw12_AmapTells.j1 k y0 y1 y2 y3 y4) (lamplighterlaw12_AmapTells.j1 (k + 1) y0 y1 y2 y3 y4))
  | 0 => ⟨fun _ _ _ _ _ _ _ r h => by simp [lamplighterlaw12_AmapTells.j0] at h, fun _ _ _ _ _ r h => by simp [lamplighterlaw12_AmapTells.j1] at h⟩
  | k + 1 => by
    obtain ⟨ih0, ih1⟩ := lamplighterlaw12_AmapTells.mono_l k
    refine ⟨?_, ?_⟩
    · intro y0 y1 y2 y3 y4 y5 y6
      unfold lamplighterlaw12_AmapTells.j0
      repeat' first
      | (with_reducible exact ih0 _ _ _ _ _ _ _)
      | (with_reducible exact ih1 _ _ _ _ _)
      | (with_reducible exact lamplighterref12_Get.mono _ _ _)
      | (with_reducible exact lamplighterref12_Own.mono _ _ _)
      | (with_reducible exact lamplighterref12_Pairs.mono _ _)
      | (with_reducible exact lamplighterref12_Same.mono _ _ _)
      | (with_reducible exact lamplighterref12_Short.mono _ _ _)
      | (with_reducible exact lamplighterref12_With.mono _ _ _ _)
      | (with_reducible exact lamplighterref12_Without.mono _ _ _)
      | (with_reducible exact LeO.refl _)
      | (with_reducible exact LeO.none _)
      | (with_reducible refine LeO.ite ?_ ?_)
      | (with_reducible refine LeO.bind ?_ (fun _ => ?_))
      | exact ih0 _ _ _ _ _ _ _
      | exact ih1 _ _ _ _ _
      | exact lamplighterref12_Get.mono _ _ _
      | exact lamplighterref12_Own.mono _ _ _
      | exact lamplighterref12_Pairs.mono _ _
      | exact lamplighterref12_Same.mono _ _ _
      | exact lamplighterref12_Short.mono _ _ _
      | exact lamplighterref12_With.mono _ _ _ _
      | exact lamplighterref12_Without.mono _ _ _
      | exact LeO.none _
      | refine LeO.ite ?_ ?_
      | refine LeO.bind ?_ (fun _ => ?_)
    · intro y0 y1 y2 y3 y4
      unfold lamplighterlaw12_AmapTells.j1
      repeat' first
      | (with_reducible exact ih0 _ _ _ _ _ _ _)
      | (with_reducible exact ih1 _ _ _ _ _)
      | (with_reducible exact lamplighterref12_Get.mono _ _ _)
      | (with_reducible exact lamplighterref12_Own.mono _ _ _)
      | (with_reducible exact lamplighterref12_Pairs.mono _ _)
      | (with_reducible exact lamplighterref12_Same.mono _ _ _)
      | (with_reducible exact lamplighterref12_Short.mono _ _ _)
      | (with_reducible exact lamplighterref12_With.mono _ _ _ _)
      | (with_reducible exact lamplighterref12_Without.mono _ _ _)
      | (with_reducible exact LeO.refl _)
      | (with_reducible exact LeO.none _)
      | (with_reducible refine LeO.ite ?_ ?_)
      | (with_reducible refine LeO.bind ?_ (fun _ => ?_))
      | exact ih0 _ _ _ _ _ _ _
      | exact ih1 _ _ _ _ _
      | exact lamplighterref12_Get.mono _ _ _
      | exact lamplighterref12_Own.mono _ _ _
      | exact lamplighterref12_Pairs.mono _ _
      | exact lamplighterref12_Same.mono _ _ _
      | exact lamplighterref12_Short.mono _ _ _
      | exact lamplighterref12_With.mono _ _ _ _
      | exact lamplighterref12_Without.mono _ _ _
      | exact LeO.none _
      | refine LeO.ite ?_ ?_
      | refine LeO.bind ?_ (fun _ => ?_)
theorem lamplighterlaw12_AmapTells.mono : ∀ a0 a1 a2 a3 a4 k, LeO (lamplighterlaw12_AmapTells.f k a0 a1 a2 a3 a4) (lamplighterlaw12_AmapTells.f (k + 1) a0 a1 a2 a3 a4) := by
  intro a0 a1 a2 a3 a4 k
  obtain ⟨ih0, ih1⟩ := lamplighterlaw12_AmapTells.mono_l k
  unfold lamplighterlaw12_AmapTells.f
  repeat' first
      | (with_reducible exact ih0 _ _ _ _ _ _ _)
      | (with_reducible exact ih1 _ _ _ _ _)
      | (with_reducible exact lamplighterref12_Get.mono _ _ _)
      | (with_reducible exact lamplighterref12_Own.mono _ _ _)
      | (with_reducible exact lamplighterref12_Pairs.mono _ _)
      | (with_reducible exact lamplighterref12_Same.mono _ _ _)
      | (with_reducible exact lamplighterref12_Short.mono _ _ _)
      | (with_reducible exact lamplighterref12_With.mono _ _ _ _)
      | (with_reducible exact lamplighterref12_Without.mono _ _ _)
      | (with_reducible exact LeO.refl _)
      | (with_reducible exact LeO.none _)
      | (with_reducible refine LeO.ite ?_ ?_)
      | (with_reducible refine LeO.bind ?_ (fun _ => ?_))
      | exact ih0 _ _ _ _ _ _ _
      | exact ih1 _ _ _ _ _
      | exact lamplighterref12_Get.mono _ _ _
      | exact lamplighterref12_Own.mono _ _ _
      | exact lamplighterref12_Pairs.mono _ _
      | exact lamplighterref12_Same.mono _ _ _
      | exact lamplighterref12_Short.mono _ _ _
      | exact lamplighterref12_With.mono _ _ _ _
      | exact lamplighterref12_Without.mono _ _ _
      | exact LeO.none _
      | refine LeO.ite ?_ ?_
      | refine LeO.bind ?_ (fun _ => ?_)
set_option maxHeartbeats 8000000 in
set_option maxRecDepth 100000 in
theorem lamplighterlaw12_AmapTells.calls (k : Nat) (A0 : Option Addr) (c0 : Nat) (l0 : List Int) (a1 : Int) (A2 : Option Addr) (c2 : Nat) (l2 : List (S45)) (a3 : ByteArray) (a4 : ByteArray) (r : Bool) (w : World) (hr0 : Kd.C (Kd.int .i64) w A0 l0.length l0) (hc0 : l0.length ≤ c0) (hr2 : Kd.C k45 w A2 l2.length l2) (hc2 : l2.length ≤ c2) (h : lamplighterlaw12_AmapTells.f k l0 a1 l2 a3 a4 = some r) :
    Calls Tryz.prog 3 #[.slice A0 l0.length c0, .int .i64 a1, .slice A2 l2.length c2, .string a3, .string a4] w fun e w' => e = .returned (.bool r) ∧ Below w.heap.size w w' := by
  have HR0 := Aside0.mk hr0
  have HC0 := Aside0.mk hc0
  clear hr0 hc0
  have HR2 := Aside0.mk hr2
  have HC2 := Aside0.mk hc2
  clear hr2 hc2
  have HB := Aside0.mk (Below.refl w.heap.size w)
  have H : ((lamplighterlaw12_awake.f).bind fun t182 => (if (l0.length : Int) > 1000 then (lamplighterlaw12_AmapTells.j0 k l0 a1 l2 a3 a4 t182 true) else ((lamplighterref12_Short.f k l2 200).bind fun t183 => (if t183 = true then (if (a3.size : Int) > 100 then (lamplighterlaw12_AmapTells.j0 k l0 a1 l2 a3 a4 t182 true) else (lamplighterlaw12_AmapTells.j0 k l0 a1 l2 a3 a4 t182 (decide ((a4.size : Int) > 100)))) else (lamplighterlaw12_AmapTells.j0 k l0 a1 l2 a3 a4 t182 true))))) = some r := h
  clear h
  replace H := Option.bind_eq_some_iff.mp H
  obtain ⟨t182, A60, H⟩ := H
  replace H : (if (l0.length : Int) > 1000 then (lamplighterlaw12_AmapTells.j0 k l0 a1 l2 a3 a4 t182 true) else ((lamplighterref12_Short.f k l2 200).bind fun t183 => (if t183 = true then (if (a3.size : Int) > 100 then (lamplighterlaw12_AmapTells.j0 k l0 a1 l2 a3 a4 t182 true) else (lamplighterlaw12_AmapTells.j0 k l0 a1 l2 a3 a4 t182 (decide ((a4.size : Int) > 100)))) else (lamplighterlaw12_AmapTells.j0 k l0 a1 l2 a3 a4 t182 true)))) = some r := H
  have A6 := Aside0.mk A60
  clear A60
  have HC7 := Aside0.mk H
  clear H
  go_enter Tryz.func3, Tryz.ntmps3
  go_upto_region 2 with (first | ((with_reducible refine gate_callee (f := 4) rfl ?_); refine goesL_ (some 25) rfl rfl Tryz.func4 (by kernel_rfl) rfl #[] rfl (by (try simp only [List.map_toArray, List.map_cons, List.map_nil]); first | done | rfl | (simp only [List.length_drop, List.length_take]; rfl)) ?_; (with_reducible refine (lamplighterlaw12_awake.calls  t182 _ A6.out).mono ?_); rintro e w8 ⟨rfl, hb⟩; refine ⟨_, rfl, ?_⟩; have n0_ := Aside0.mk (below_step (by repeat (first | (with_reducible first | exact HB.out | apply below_alloc | apply pw_below_drewN | apply below_drew1) | exact HB.out)) hb); clear HB; have HB := n0_; clear n0_; (try clear hb); (try clear hb2); (try clear hk); (try clear hi)))
  (try simp only [Act.put, List.setIfInBounds_toArray, List.set_cons_zero, List.set_cons_succ])
  go_cut [43] (fun v43 wc => ∃ (kq : Nat) (x43_6 : Bool), v43 = .bool x43_6 ∧ Aside0 (lamplighterlaw12_AmapTells.j0 kq l0 a1 l2 a3 a4 t182 x43_6 = some r) ∧ Aside0 (kq ≤ k) ∧ Aside0 (Below w.heap.size w wc))
  case first =>
    have H := HC7.out
    clear HC7
    by_cases c9 : (l0.length : Int) > 1000
    · rw [if_pos c9] at H
      have c9b0 : decide (1000 < (l0.length : Int)) = true := decide_eq_true c9
      have c9b1 : decide (1000 < l0.length) = true := decide_eq_true (by omega)
      clear c9
      (first | rw [c9b0] | (simp only [i64_w, i32_w]; rw [c9b0]) | skip)
      have H' := Aside0.mk H
      clear H
      go_wp2
      go_meet
      case rel => exact ⟨_, (true), (by first | rfl | (simp; done) | (simp [*]; done)), H', ⟨by first | omega | exact Nat.le_refl _⟩, ⟨by repeat (first | (with_reducible first | exact HB.out | apply below_alloc | apply pw_below_drewN | apply below_drew1) | exact HB.out)⟩⟩
    · rw [if_neg c9] at H
      have c9b0 : decide (1000 < (l0.length : Int)) = false := decide_eq_false c9
      have c9b1 : decide (1000 < l0.length) = false := decide_eq_false (by omega)
      clear c9
      (first | rw [c9b0] | (simp only [i64_w, i32_w]; rw [c9b0]) | skip)
      replace H := Option.bind_eq_some_iff.mp H
      obtain ⟨t183, A100, H⟩ := H
      replace H : (if t183 = true then (if (a3.size : Int) > 100 then (lamplighterlaw12_AmapTells.j0 k l0 a1 l2 a3 a4 t182 true) else (lamplighterlaw12_AmapTells.j0 k l0 a1 l2 a3 a4 t182 (decide ((a4.size : Int) > 100)))) else (lamplighterlaw12_AmapTells.j0 k l0 a1 l2 a3 a4 t182 true)) = some r := H
      have A10 := Aside0.mk A100
      clear A100
      by_cases c11 : t183 = true
      · subst c11
        have H1 : (if (a3.size : Int) > 100 then (lamplighterlaw12_AmapTells.j0 k l0 a1 l2 a3 a4 t182 true) else (lamplighterlaw12_AmapTells.j0 k l0 a1 l2 a3 a4 t182 (decide ((a4.size : Int) > 100)))) = some r := by rw [if_pos rfl] at H; exact H
        clear H
        have H := H1
        clear H1
        by_cases c12 : (a3.size : Int) > 100
        · rw [if_pos c12] at H
          have c12b0 : decide (100 < (a3.size : Int)) = true := decide_eq_true c12
          have c12b1 : decide (100 < a3.size) = true := decide_eq_true (by omega)
          clear c12
          have H' := Aside0.mk H
          clear H
          go_wp2_with (first | (go_at_call 5; (with_reducible refine (lamplighterref12_Short.calls k _ _ l2 200 true _ ?side1 ?side2 A10.out).mono ?_); (case side1 => repeat (first | exact (Kd.C_below HR2.out HB.out) | (with_reducible refine Kd.C_alloc ?_ _) | (with_reducible refine Kd.C_drewN ?_ _) | (with_reducible refine Kd.C_drew ?_))); (case side2 => exact HC2.out); rintro e w' ⟨rfl, ⟨nd, rfl⟩⟩))
          go_meet
          case rel => exact ⟨_, (true), (by first | rfl | (simp; done) | (simp [*]; done)), H', ⟨by first | omega | exact Nat.le_refl _⟩, ⟨by repeat (first | (with_reducible first | exact HB.out | apply below_alloc | apply pw_below_drewN | apply below_drew1) | exact HB.out)⟩⟩
        · rw [if_neg c12] at H
          have c12b0 : decide (100 < (a3.size : Int)) = false := decide_eq_false c12
          have c12b1 : decide (100 < a3.size) = false := decide_eq_false (by omega)
          clear c12
          have H' := Aside0.mk H
          clear H
          go_wp2_with (first | (go_at_call 5; (with_reducible refine (lamplighterref12_Short.calls k _ _ l2 200 true _ ?side1 ?side2 A10.out).mono ?_); (case side1 => repeat (first | exact (Kd.C_below HR2.out HB.out) | (with_reducible refine Kd.C_alloc ?_ _) | (with_reducible refine Kd.C_drewN ?_ _) | (with_reducible refine Kd.C_drew ?_))); (case side2 => exact HC2.out); rintro e w' ⟨rfl, ⟨nd, rfl⟩⟩))
          go_meet
          case rel => exact ⟨_, (decide ((a4.size : Int) > 100)), (by first | rfl | (simp; done) | (simp [*]; done)), H', ⟨by first | omega | exact Nat.le_refl _⟩, ⟨by repeat (first | (with_reducible first | exact HB.out | apply below_alloc | apply pw_below_drewN | apply below_drew1) | exact HB.out)⟩⟩
      · replace c11 := Bool.eq_false_iff.mpr c11
        subst c11
        have H1 : (lamplighterlaw12_AmapTells.j0 k l0 a1 l2 a3 a4 t182 true) = some r := by rw [if_neg (show ¬ (false = true) by decide)] at H; exact H
        clear H
        have H := H1
        clear H1
        have H' := Aside0.mk H
        clear H
        go_wp2_with (first | (go_at_call 5; (with_reducible refine (lamplighterref12_Short.calls k _ _ l2 200 false _ ?side1 ?side2 A10.out).mono ?_); (case side1 => repeat (first | exact (Kd.C_below HR2.out HB.out) | (with_reducible refine Kd.C_alloc ?_ _) | (with_reducible refine Kd.C_drewN ?_ _) | (with_reducible refine Kd.C_drew ?_))); (case side2 => exact HC2.out); rintro e w' ⟨rfl, ⟨nd, rfl⟩⟩))
        go_meet
        case rel => exact ⟨_, (true), (by first | rfl | (simp; done) | (simp [*]; done)), H', ⟨by first | omega | exact Nat.le_refl _⟩, ⟨by repeat (first | (with_reducible first | exact HB.out | apply below_alloc | apply pw_below_drewN | apply below_drew1) | exact HB.out)⟩⟩
  case rest =>
    clear HC7
    try clear c1
    try clear c2
    try clear p2
    try clear c3
    try clear c4
    try clear c9
    try clear c9b0
    try clear c9b1
    try clear c11
    try clear c12
    try clear c12b0
    try clear c12b1
    obtain ⟨kq, x43_6, rfl, HA, HJ6, HB⟩ := hcut
    cases kq with
    | zero => exact absurd HA.out (by simp [lamplighterlaw12_AmapTells.j0])
    | succ kj6 =>
      have H := HA.out
      clear HA
      simp only [lamplighterlaw12_AmapTells.j0] at H
      by_cases c13 : x43_6 = true
      · subst c13
        have H1 : (some t182) = some r := by rw [if_pos rfl] at H; exact H
        clear H
        have H := H1
        clear H1
        obtain rfl := Option.some.inj H
        go_wp2
        go_ret
        exact ⟨by first | rfl | (simp [errW_none, errW_some] <;> rfl) | (simp [*, errW_none, errW_some] <;> rfl), by repeat (first | (with_reducible first | exact HB.out | apply below_alloc | apply pw_below_drewN | apply below_drew1) | exact HB.out)⟩
      · replace c13 := Bool.eq_false_iff.mpr c13
        subst c13
        have H1 : ((amap_Own.f l0 a1).bind fun bt184 => ((lamplighterref12_Own.f kj6 l0 a1).bind fun bt188 => ((amap_Pairs.f l0).bind fun bt192 => ((lamplighterref12_Pairs.f kj6 l0).bind fun bt196 => ((amap_Get.f l2 a3).bind fun bt200 => ((lamplighterref12_Get.f kj6 l2 a3).bind fun bt202 => ((lamplighterref12_Same.f kj6 bt184.1 bt188.1).bind fun t204 => (if t204 = true then (if bt184.2 = bt188.2 then ((lamplighterref12_Same.f kj6 bt192.1 bt196.1).bind fun t205 => (if t205 = true then (if bt192.2 = bt196.2 then (if bt200.1.toList = bt202.1.toList then (lamplighterlaw12_AmapTells.j1 kj6 l2 a3 a4 t182 (bt200.2 == bt202.2)) else (lamplighterlaw12_AmapTells.j1 kj6 l2 a3 a4 t182 false)) else (lamplighterlaw12_AmapTells.j1 kj6 l2 a3 a4 t182 false)) else (lamplighterlaw12_AmapTells.j1 kj6 l2 a3 a4 t182 false))) else (lamplighterlaw12_AmapTells.j1 kj6 l2 a3 a4 t182 false)) else (lamplighterlaw12_AmapTells.j1 kj6 l2 a3 a4 t182 false))))))))) = some r := by rw [if_neg (show ¬ (false = true) by decide)] at H; exact H
        clear H
        have H := H1
        clear H1
        replace H := Option.bind_eq_some_iff.mp H
        obtain ⟨⟨t184, t185⟩, A140, H⟩ := H
        replace H : ((lamplighterref12_Own.f kj6 l0 a1).bind fun bt188 => ((amap_Pairs.f l0).bind fun bt192 => ((lamplighterref12_Pairs.f kj6 l0).bind fun bt196 => ((amap_Get.f l2 a3).bind fun bt200 => ((lamplighterref12_Get.f kj6 l2 a3).bind fun bt202 => ((lamplighterref12_Same.f kj6 t184 bt188.1).bind fun t204 => (if t204 = true then (if t185 = bt188.2 then ((lamplighterref12_Same.f kj6 bt192.1 bt196.1).bind fun t205 => (if t205 = true then (if bt192.2 = bt196.2 then (if bt200.1.toList = bt202.1.toList then (lamplighterlaw12_AmapTells.j1 kj6 l2 a3 a4 t182 (bt200.2 == bt202.2)) else (lamplighterlaw12_AmapTells.j1 kj6 l2 a3 a4 t182 false)) else (lamplighterlaw12_AmapTells.j1 kj6 l2 a3 a4 t182 false)) else (lamplighterlaw12_AmapTells.j1 kj6 l2 a3 a4 t182 false))) else (lamplighterlaw12_AmapTells.j1 kj6 l2 a3 a4 t182 false)) else (lamplighterlaw12_AmapTells.j1 kj6 l2 a3 a4 t182 false)))))))) = some r := H
        have A14 := Aside0.mk A140
        clear A140
        replace H := Option.bind_eq_some_iff.mp H
        obtain ⟨⟨t188, t189⟩, A150, H⟩ := H
        replace H : ((amap_Pairs.f l0).bind fun bt192 => ((lamplighterref12_Pairs.f kj6 l0).bind fun bt196 => ((amap_Get.f l2 a3).bind fun bt200 => ((lamplighterref12_Get.f kj6 l2 a3).bind fun bt202 => ((lamplighterref12_Same.f kj6 t184 t188).bind fun t204 => (if t204 = true then (if t185 = t189 then ((lamplighterref12_Same.f kj6 bt192.1 bt196.1).bind fun t205 => (if t205 = true then (if bt192.2 = bt196.2 then (if bt200.1.toList = bt202.1.toList then (lamplighterlaw12_AmapTells.j1 kj6 l2 a3 a4 t182 (bt200.2 == bt202.2)) else (lamplighterlaw12_AmapTells.j1 kj6 l2 a3 a4 t182 false)) else (lamplighterlaw12_AmapTells.j1 kj6 l2 a3 a4 t182 false)) else (lamplighterlaw12_AmapTells.j1 kj6 l2 a3 a4 t182 false))) else (lamplighterlaw12_AmapTells.j1 kj6 l2 a3 a4 t182 false)) else (lamplighterlaw12_AmapTells.j1 kj6 l2 a3 a4 t182 false))))))) = some r := H
        have A15 := Aside0.mk A150
        clear A150
        replace H := Option.bind_eq_some_iff.mp H
        obtain ⟨⟨t192, t193⟩, A160, H⟩ := H
        replace H : ((lamplighterref12_Pairs.f kj6 l0).bind fun bt196 => ((amap_Get.f l2 a3).bind fun bt200 => ((lamplighterref12_Get.f kj6 l2 a3).bind fun bt202 => ((lamplighterref12_Same.f kj6 t184 t188).bind fun t204 => (if t204 = true then (if t185 = t189 then ((lamplighterref12_Same.f kj6 t192 bt196.1).bind fun t205 => (if t205 = true then (if t193 = bt196.2 then (if bt200.1.toList = bt202.1.toList then (lamplighterlaw12_AmapTells.j1 kj6 l2 a3 a4 t182 (bt200.2 == bt202.2)) else (lamplighterlaw12_AmapTells.j1 kj6 l2 a3 a4 t182 false)) else (lamplighterlaw12_AmapTells.j1 kj6 l2 a3 a4 t182 false)) else (lamplighterlaw12_AmapTells.j1 kj6 l2 a3 a4 t182 false))) else (lamplighterlaw12_AmapTells.j1 kj6 l2 a3 a4 t182 false)) else (lamplighterlaw12_AmapTells.j1 kj6 l2 a3 a4 t182 false)))))) = some r := H
        have A16 := Aside0.mk A160
        clear A160
        replace H := Option.bind_eq_some_iff.mp H
        obtain ⟨⟨t196, t197⟩, A170, H⟩ := H
        replace H : ((amap_Get.f l2 a3).bind fun bt200 => ((lamplighterref12_Get.f kj6 l2 a3).bind fun bt202 => ((lamplighterref12_Same.f kj6 t184 t188).bind fun t204 => (if t204 = true then (if t185 = t189 then ((lamplighterref12_Same.f kj6 t192 t196).bind fun t205 => (if t205 = true then (if t193 = t197 then (if bt200.1.toList = bt202.1.toList then (lamplighterlaw12_AmapTells.j1 kj6 l2 a3 a4 t182 (bt200.2 == bt202.2)) else (lamplighterlaw12_AmapTells.j1 kj6 l2 a3 a4 t182 false)) else (lamplighterlaw12_AmapTells.j1 kj6 l2 a3 a4 t182 false)) else (lamplighterlaw12_AmapTells.j1 kj6 l2 a3 a4 t182 false))) else (lamplighterlaw12_AmapTells.j1 kj6 l2 a3 a4 t182 false)) else (lamplighterlaw12_AmapTells.j1 kj6 l2 a3 a4 t182 false))))) = some r := H
        have A17 := Aside0.mk A170
        clear A170
        replace H := Option.bind_eq_some_iff.mp H
        obtain ⟨⟨t200, t201⟩, A180, H⟩ := H
        replace H : ((lamplighterref12_Get.f kj6 l2 a3).bind fun bt202 => ((lamplighterref12_Same.f kj6 t184 t188).bind fun t204 => (if t204 = true then (if t185 = t189 then ((lamplighterref12_Same.f kj6 t192 t196).bind fun t205 => (if t205 = true then (if t193 = t197 then (if t200.toList = bt202.1.toList then (lamplighterlaw12_AmapTells.j1 kj6 l2 a3 a4 t182 (t201 == bt202.2)) else (lamplighterlaw12_AmapTells.j1 kj6 l2 a3 a4 t182 false)) else (lamplighterlaw12_AmapTells.j1 kj6 l2 a3 a4 t182 false)) else (lamplighterlaw12_AmapTells.j1 kj6 l2 a3 a4 t182 false))) else (lamplighterlaw12_AmapTells.j1 kj6 l2 a3 a4 t182 false)) else (lamplighterlaw12_AmapTells.j1 kj6 l2 a3 a4 t182 false)))) = some r := H
        have A18 := Aside0.mk A180
        clear A180
        replace H := Option.bind_eq_some_iff.mp H
        obtain ⟨⟨t202, t203⟩, A190, H⟩ := H
        replace H : ((lamplighterref12_Same.f kj6 t184 t188).bind fun t204 => (if t204 = true then (if t185 = t189 then ((lamplighterref12_Same.f kj6 t192 t196).bind fun t205 => (if t205 = true then (if t193 = t197 then (if t200.toList = t202.toList then (lamplighterlaw12_AmapTells.j1 kj6 l2 a3 a4 t182 (t201 == t203)) else (lamplighterlaw12_AmapTells.j1 kj6 l2 a3 a4 t182 false)) else (lamplighterlaw12_AmapTells.j1 kj6 l2 a3 a4 t182 false)) else (lamplighterlaw12_AmapTells.j1 kj6 l2 a3 a4 t182 false))) else (lamplighterlaw12_AmapTells.j1 kj6 l2 a3 a4 t182 false)) else (lamplighterlaw12_AmapTells.j1 kj6 l2 a3 a4 t182 false))) = some r := H
        have A19 := Aside0.mk A190
        clear A190
        have HC20 := Aside0.mk H
        clear H
        go_upto_region 10 with (first | ((with_reducible refine gate_callee (f := 6) rfl ?_); refine goesL_ (some 48) rfl rfl Tryz.func6 (by kernel_rfl) rfl #[.slice A0 l0.length c0, .int .i64 a1] rfl (by (try simp only [List.map_toArray, List.map_cons, List.map_nil]); first | done | rfl | (simp only [List.length_drop, List.length_take]; rfl)) ?_; (with_reducible refine (amap_Own.calls _ _ l0 a1 t184 t185 _ ?side1 ?side2 A14.out).mono ?_); (case side1 => repeat (first | exact (Kd.C_below HR0.out HB.out) | (with_reducible refine Kd.C_alloc ?_ _) | (with_reducible refine Kd.C_drewN ?_ _) | (with_reducible refine Kd.C_drew ?_))); (case side2 => exact HC0.out); rintro e w21 ⟨v186, rfl, ho0, hb⟩; refine ⟨_, rfl, ?_⟩; have n0_ := Aside0.mk (Kd.R_lower ho0 (below_size (by repeat (first | (with_reducible first | exact HB.out | apply below_alloc | apply pw_below_drewN | apply below_drew1) | exact HB.out)))); have n1_ := Aside0.mk (below_step (by repeat (first | (with_reducible first | exact HB.out | apply below_alloc | apply pw_below_drewN | apply below_drew1) | exact HB.out)) hb); clear HB; have HO187 := n0_; have HB := n1_; clear n0_ n1_; (try clear hb); (try clear hb2); (try clear hk); (try clear hi); (try clear ho0)) | ((with_reducible refine gate_callee (f := 7) rfl ?_); refine goesL_ (some 54) rfl rfl Tryz.func7 (by kernel_rfl) rfl #[.slice A0 l0.length c0, .int .i64 a1] rfl (by (try simp only [List.map_toArray, List.map_cons, List.map_nil]); first | done | rfl | (simp only [List.length_drop, List.length_take]; rfl)) ?_; (with_reducible refine (lamplighterref12_Own.calls kj6 _ _ l0 a1 t188 t189 _ ?side1 ?side2 A15.out).mono ?_); (case side1 => repeat (first | exact (Kd.C_below HR0.out HB.out) | (with_reducible refine Kd.C_alloc ?_ _) | (with_reducible refine Kd.C_drewN ?_ _) | (with_reducible refine Kd.C_drew ?_))); (case side2 => exact HC0.out); rintro e w22 ⟨v190, rfl, ho0, hb⟩; refine ⟨_, rfl, ?_⟩; have n0_ := Aside0.mk (Kd.R_elder' (by (with_reducible repeat (first | apply Kd.R_alloc | apply Kd.R_drewN | apply Kd.R_drew)); exact HO187.out) (Kd.R_base ho0) hb); have n1_ := Aside0.mk (Kd.R_lower (Kd.R_new' ho0 (Kd.R_lt (by (with_reducible repeat (first | apply Kd.R_alloc | apply Kd.R_drewN | apply Kd.R_drew)); exact HO187.out))) (below_size (by repeat (first | (with_reducible first | exact HB.out | apply below_alloc | apply pw_below_drewN | apply below_drew1) | exact HB.out)))); have n2_ := Aside0.mk (below_step (by repeat (first | (with_reducible first | exact HB.out | apply below_alloc | apply pw_below_drewN | apply below_drew1) | exact HB.out)) hb); clear HO187; clear HB; have HO187 := n0_; have HO191 := n1_; have HB := n2_; clear n0_ n1_ n2_; (try clear hb); (try clear hb2); (try clear hk); (try clear hi); (try clear ho0)) | ((with_reducible refine gate_callee (f := 8) rfl ?_); refine goesL_ (some 59) rfl rfl Tryz.func8 (by kernel_rfl) rfl #[.slice A0 l0.length c0] rfl (by (try simp only [List.map_toArray, List.map_cons, List.map_nil]); first | done | rfl | (simp only [List.length_drop, List.length_take]; rfl)) ?_; (with_reducible refine (amap_Pairs.calls _ _ l0 t192 t193 _ ?side1 ?side2 A16.out).mono ?_); (case side1 => repeat (first | exact (Kd.C_below HR0.out HB.out) | (with_reducible refine Kd.C_alloc ?_ _) | (with_reducible refine Kd.C_drewN ?_ _) | (with_reducible refine Kd.C_drew ?_))); (case side2 => exact HC0.out); rintro e w23 ⟨v194, rfl, ho0, hb⟩; refine ⟨_, rfl, ?_⟩; have n0_ := Aside0.mk (Kd.R_elder' (by (with_reducible repeat (first | apply Kd.R_alloc | apply Kd.R_drewN | apply Kd.R_drew)); exact HO187.out) (Kd.R_base ho0) hb); have n1_ := Aside0.mk (Kd.R_elder' (by (with_reducible repeat (first | apply Kd.R_alloc | apply Kd.R_drewN | apply Kd.R_drew)); exact HO191.out) (Kd.R_base ho0) hb); have n2_ := Aside0.mk (Kd.R_lower (Kd.R_new' (Kd.R_new' ho0 (Kd.R_lt (by (with_reducible repeat (first | apply Kd.R_alloc | apply Kd.R_drewN | apply Kd.R_drew)); exact HO187.out))) (Kd.R_lt (by (with_reducible repeat (first | apply Kd.R_alloc | apply Kd.R_drewN | apply Kd.R_drew)); exact HO191.out))) (below_size (by repeat (first | (with_reducible first | exact HB.out | apply below_alloc | apply pw_below_drewN | apply below_drew1) | exact HB.out)))); have n3_ := Aside0.mk (below_step (by repeat (first | (with_reducible first | exact HB.out | apply below_alloc | apply pw_below_drewN | apply below_drew1) | exact HB.out)) hb); clear HO187; clear HO191; clear HB; have HO187 := n0_; have HO191 := n1_; have HO195 := n2_; have HB := n3_; clear n0_ n1_ n2_ n3_; (try clear hb); (try clear hb2); (try clear hk); (try clear hi); (try clear ho0)) | ((with_reducible refine gate_callee (f := 9) rfl ?_); refine goesL_ (some 64) rfl rfl Tryz.func9 (by kernel_rfl) rfl #[.slice A0 l0.length c0] rfl (by (try simp only [List.map_toArray, List.map_cons, List.map_nil]); first | done | rfl | (simp only [List.length_drop, List.length_take]; rfl)) ?_; (with_reducible refine (lamplighterref12_Pairs.calls kj6 _ _ l0 t196 t197 _ ?side1 ?side2 A17.out).mono ?_); (case side1 => repeat (first | exact (Kd.C_below HR0.out HB.out) | (with_reducible refine Kd.C_alloc ?_ _) | (with_reducible refine Kd.C_drewN ?_ _) | (with_reducible refine Kd.C_drew ?_))); (case side2 => exact HC0.out); rintro e w24 ⟨v198, rfl, ho0, hb⟩; refine ⟨_, rfl, ?_⟩; have n0_ := Aside0.mk (Kd.R_elder' (by (with_reducible repeat (first | apply Kd.R_alloc | apply Kd.R_drewN | apply Kd.R_drew)); exact HO187.out) (Kd.R_base ho0) hb); have n1_ := Aside0.mk (Kd.R_elder' (by (with_reducible repeat (first | apply Kd.R_alloc | apply Kd.R_drewN | apply Kd.R_drew)); exact HO191.out) (Kd.R_base ho0) hb); have n2_ := Aside0.mk (Kd.R_elder' (by (with_reducible repeat (first | apply Kd.R_alloc | apply Kd.R_drewN | apply Kd.R_drew)); exact HO195.out) (Kd.R_base ho0) hb); have n3_ := Aside0.mk (Kd.R_lower (Kd.R_new' (Kd.R_new' (Kd.R_new' ho0 (Kd.R_lt (by (with_reducible repeat (first | apply Kd.R_alloc | apply Kd.R_drewN | apply Kd.R_drew)); exact HO187.out))) (Kd.R_lt (by (with_reducible repeat (first | apply Kd.R_alloc | apply Kd.R_drewN | apply Kd.R_drew)); exact HO191.out))) (Kd.R_lt (by (with_reducible repeat (first | apply Kd.R_alloc | apply Kd.R_drewN | apply Kd.R_drew)); exact HO195.out))) (below_size (by repeat (first | (with_reducible first | exact HB.out | apply below_alloc | apply pw_below_drewN | apply below_drew1) | exact HB.out)))); have n4_ := Aside0.mk (below_step (by repeat (first | (with_reducible first | exact HB.out | apply below_alloc | apply pw_below_drewN | apply below_drew1) | exact HB.out)) hb); clear HO187; clear HO191; clear HO195; clear HB; have HO187 := n0_; have HO191 := n1_; have HO195 := n2_; have HO199 := n3_; have HB := n4_; clear n0_ n1_ n2_ n3_ n4_; (try clear hb); (try clear hb2); (try clear hk); (try clear hi); (try clear ho0)) | ((with_reducible refine gate_callee (f := 10) rfl ?_); refine goesL_ (some 70) rfl rfl Tryz.func10 (by kernel_rfl) rfl #[.slice A2 l2.length c2, .string a3] rfl (by (try simp only [List.map_toArray, List.map_cons, List.map_nil]); first | done | rfl | (simp only [List.length_drop, List.length_take]; rfl)) ?_; (with_reducible refine (amap_Get.calls _ _ l2 a3 t200 t201 _ ?side1 ?side2 A18.out).mono ?_); (case side1 => repeat (first | exact (Kd.C_below HR2.out HB.out) | (with_reducible refine Kd.C_alloc ?_ _) | (with_reducible refine Kd.C_drewN ?_ _) | (with_reducible refine Kd.C_drew ?_))); (case side2 => exact HC2.out); rintro e w25 ⟨rfl, hb⟩; refine ⟨_, rfl, ?_⟩; have n0_ := Aside0.mk (Kd.R_below (by (with_reducible repeat (first | apply Kd.R_alloc | apply Kd.R_drewN | apply Kd.R_drew)); exact HO187.out) hb); have n1_ := Aside0.mk (Kd.R_below (by (with_reducible repeat (first | apply Kd.R_alloc | apply Kd.R_drewN | apply Kd.R_drew)); exact HO191.out) hb); have n2_ := Aside0.mk (Kd.R_below (by (with_reducible repeat (first | apply Kd.R_alloc | apply Kd.R_drewN | apply Kd.R_drew)); exact HO195.out) hb); have n3_ := Aside0.mk (Kd.R_below (by (with_reducible repeat (first | apply Kd.R_alloc | apply Kd.R_drewN | apply Kd.R_drew)); exact HO199.out) hb); have n4_ := Aside0.mk (below_step (by repeat (first | (with_reducible first | exact HB.out | apply below_alloc | apply pw_below_drewN | apply below_drew1) | exact HB.out)) hb); clear HO187; clear HO191; clear HO195; clear HO199; clear HB; have HO187 := n0_; have HO191 := n1_; have HO195 := n2_; have HO199 := n3_; have HB := n4_; clear n0_ n1_ n2_ n3_ n4_; (try clear hb); (try clear hb2); (try clear hk); (try clear hi)) | ((with_reducible refine gate_callee (f := 11) rfl ?_); refine goesL_ (some 76) rfl rfl Tryz.func11 (by kernel_rfl) rfl #[.slice A2 l2.length c2, .string a3] rfl (by (try simp only [List.map_toArray, List.map_cons, List.map_nil]); first | done | rfl | (simp only [List.length_drop, List.length_take]; rfl)) ?_; (with_reducible refine (lamplighterref12_Get.calls kj6 _ _ l2 a3 t202 t203 _ ?side1 ?side2 A19.out).mono ?_); (case side1 => repeat (first | exact (Kd.C_below HR2.out HB.out) | (with_reducible refine Kd.C_alloc ?_ _) | (with_reducible refine Kd.C_drewN ?_ _) | (with_reducible refine Kd.C_drew ?_))); (case side2 => exact HC2.out); rintro e w' ⟨rfl, ⟨nd, rfl⟩⟩; refine ⟨_, rfl, ?_⟩))
        (try simp only [Act.put, List.setIfInBounds_toArray, List.set_cons_zero, List.set_cons_succ])
        go_cut [24] (fun v24 wc => ∃ (kq : Nat) (x24_19 : Bool), v24 = .bool x24_19 ∧ Aside0 (lamplighterlaw12_AmapTells.j1 kq l2 a3 a4 t182 x24_19 = some r) ∧ Aside0 (kq ≤ kj6) ∧ Aside0 (Below w.heap.size w wc))
        case first =>
          have H := HC20.out
          clear HC20
          replace H := Option.bind_eq_some_iff.mp H
          obtain ⟨t204, A260, H⟩ := H
          replace H : (if t204 = true then (if t185 = t189 then ((lamplighterref12_Same.f kj6 t192 t196).bind fun t205 => (if t205 = true then (if t193 = t197 then (if t200.toList = t202.toList then (lamplighterlaw12_AmapTells.j1 kj6 l2 a3 a4 t182 (t201 == t203)) else (lamplighterlaw12_AmapTells.j1 kj6 l2 a3 a4 t182 false)) else (lamplighterlaw12_AmapTells.j1 kj6 l2 a3 a4 t182 false)) else (lamplighterlaw12_AmapTells.j1 kj6 l2 a3 a4 t182 false))) else (lamplighterlaw12_AmapTells.j1 kj6 l2 a3 a4 t182 false)) else (lamplighterlaw12_AmapTells.j1 kj6 l2 a3 a4 t182 false)) = some r := H
          have A26 := Aside0.mk A260
          clear A260
          by_cases c27 : t204 = true
          · subst c27
            have H1 : (if t185 = t189 then ((lamplighterref12_Same.f kj6 t192 t196).bind fun t205 => (if t205 = true then (if t193 = t197 then (if t200.toList = t202.toList then (lamplighterlaw12_AmapTells.j1 kj6 l2 a3 a4 t182 (t201 == t203)) else (lamplighterlaw12_AmapTells.j1 kj6 l2 a3 a4 t182 false)) else (lamplighterlaw12_AmapTells.j1 kj6 l2 a3 a4 t182 false)) else (lamplighterlaw12_AmapTells.j1 kj6 l2 a3 a4 t182 false))) else (lamplighterlaw12_AmapTells.j1 kj6 l2 a3 a4 t182 false)) = some r := by rw [if_pos rfl] at H; exact H
            clear H
            have H := H1
            clear H1
            by_cases c28 : t185 = t189
            · rw [if_pos c28] at H
              have c28b0 : (t185 == t189) = true := beq_iff_eq.mpr c28
              have c28b1 : (t185 != t189) = false := bne_eq_false_iff_eq.mpr c28
              clear c28
              (first | rw [c28b0] | (simp only [i64_w, i32_w]; rw [c28b0]) | skip)
              replace H := Option.bind_eq_some_iff.mp H
              obtain ⟨t205, A290, H⟩ := H
              replace H : (if t205 = true then (if t193 = t197 then (if t200.toList = t202.toList then (lamplighterlaw12_AmapTells.j1 kj6 l2 a3 a4 t182 (t201 == t203)) else (lamplighterlaw12_AmapTells.j1 kj6 l2 a3 a4 t182 false)) else (lamplighterlaw12_AmapTells.j1 kj6 l2 a3 a4 t182 false)) else (lamplighterlaw12_AmapTells.j1 kj6 l2 a3 a4 t182 false)) = some r := H
              have A29 := Aside0.mk A290
              clear A290
              by_cases c30 : t205 = true
              · subst c30
                have H1 : (if t193 = t197 then (if t200.toList = t202.toList then (lamplighterlaw12_AmapTells.j1 kj6 l2 a3 a4 t182 (t201 == t203)) else (lamplighterlaw12_AmapTells.j1 kj6 l2 a3 a4 t182 false)) else (lamplighterlaw12_AmapTells.j1 kj6 l2 a3 a4 t182 false)) = some r := by rw [if_pos rfl] at H; exact H
                clear H
                have H := H1
                clear H1
                by_cases c31 : t193 = t197
                · rw [if_pos c31] at H
                  have c31b0 : (t193 == t197) = true := beq_iff_eq.mpr c31
                  have c31b1 : (t193 != t197) = false := bne_eq_false_iff_eq.mpr c31
                  clear c31
                  by_cases c32 : t200.toList = t202.toList
                  · rw [if_pos c32] at H
                    have c32b0 : (t200.toList == t202.toList) = true := beq_iff_eq.mpr c32
                    have c32b1 : (t200.toList != t202.toList) = false := bne_eq_false_iff_eq.mpr c32
                    clear c32
                    have H' := Aside0.mk H
                    clear H
                    obtain ⟨Ao33, co33, eo33⟩ := Kd.R_slice HO187.out
                    subst eo33
                    obtain ⟨Ao34, co34, eo34⟩ := Kd.R_slice HO191.out
                    subst eo34
                    go_wp2_with (first | ((with_reducible refine gate_callee (f := 12) rfl ?_); refine goesL_ (some 81) rfl rfl Tryz.func12 (by kernel_rfl) rfl #[.slice Ao33 t184.length co33, .slice Ao34 t188.length co34] rfl (by (try simp only [List.map_toArray, List.map_cons, List.map_nil]); first | done | rfl | (simp only [List.length_drop, List.length_take]; rfl)) ?_; (with_reducible refine (lamplighterref12_Same.calls kj6 _ _ t184 _ _ t188 true _ ?side1 ?side2 ?side3 ?side4 A26.out).mono ?_); (case side1 => repeat (first | exact (Kd.R_reads' HO187.out).2.2 | (with_reducible refine Kd.C_alloc ?_ _) | (with_reducible refine Kd.C_drewN ?_ _) | (with_reducible refine Kd.C_drew ?_))); (case side2 => exact (Kd.R_reads' HO187.out).2.1); (case side3 => repeat (first | exact (Kd.R_reads' HO191.out).2.2 | (with_reducible refine Kd.C_alloc ?_ _) | (with_reducible refine Kd.C_drewN ?_ _) | (with_reducible refine Kd.C_drew ?_))); (case side4 => exact (Kd.R_reads' HO191.out).2.1); rintro e w' ⟨rfl, ⟨nd, rfl⟩⟩; refine ⟨_, rfl, ?_⟩; obtain ⟨Ao35, co35, eo35⟩ := Kd.R_slice HO195.out; subst eo35; obtain ⟨Ao36, co36, eo36⟩ := Kd.R_slice HO199.out; subst eo36) | (go_at_call 12; (with_reducible refine (lamplighterref12_Same.calls kj6 _ _ t192 _ _ t196 true _ ?side1 ?side2 ?side3 ?side4 A29.out).mono ?_); (case side1 => repeat (first | exact (Kd.R_reads' HO195.out).2.2 | (with_reducible refine Kd.C_alloc ?_ _) | (with_reducible refine Kd.C_drewN ?_ _) | (with_reducible refine Kd.C_drew ?_))); (case side2 => exact (Kd.R_reads' HO195.out).2.1); (case side3 => repeat (first | exact (Kd.R_reads' HO199.out).2.2 | (with_reducible refine Kd.C_alloc ?_ _) | (with_reducible refine Kd.C_drewN ?_ _) | (with_reducible refine Kd.C_drew ?_))); (case side4 => exact (Kd.R_reads' HO199.out).2.1); rintro e w' ⟨rfl, ⟨nd, rfl⟩⟩))
                    go_meet
                    case rel => exact ⟨_, ((t201 == t203)), (by first | rfl | (simp; done) | (simp [*]; done)), H', ⟨by have := HJ6.out; first | omega | exact Nat.le_refl _⟩, ⟨by repeat (first | (with_reducible first | exact HB.out | apply below_alloc | apply pw_below_drewN | apply below_drew1) | exact HB.out)⟩⟩
                  · rw [if_neg c32] at H
                    have c32b0 : (t200.toList == t202.toList) = false := beq_eq_false_iff_ne.mpr c32
                    have c32b1 : (t200.toList != t202.toList) = true := bne_iff_ne.mpr c32
                    have H' := Aside0.mk H
                    clear H
                    obtain ⟨Ao37, co37, eo37⟩ := Kd.R_slice HO187.out
                    subst eo37
                    obtain ⟨Ao38, co38, eo38⟩ := Kd.R_slice HO191.out
                    subst eo38
                    go_wp2_with (first | ((with_reducible refine gate_callee (f := 12) rfl ?_); refine goesL_ (some 81) rfl rfl Tryz.func12 (by kernel_rfl) rfl #[.slice Ao37 t184.length co37, .slice Ao38 t188.length co38] rfl (by (try simp only [List.map_toArray, List.map_cons, List.map_nil]); first | done | rfl | (simp only [List.length_drop, List.length_take]; rfl)) ?_; (with_reducible refine (lamplighterref12_Same.calls kj6 _ _ t184 _ _ t188 true _ ?side1 ?side2 ?side3 ?side4 A26.out).mono ?_); (case side1 => repeat (first | exact (Kd.R_reads' HO187.out).2.2 | (with_reducible refine Kd.C_alloc ?_ _) | (with_reducible refine Kd.C_drewN ?_ _) | (with_reducible refine Kd.C_drew ?_))); (case side2 => exact (Kd.R_reads' HO187.out).2.1); (case side3 => repeat (first | exact (Kd.R_reads' HO191.out).2.2 | (with_reducible refine Kd.C_alloc ?_ _) | (with_reducible refine Kd.C_drewN ?_ _) | (with_reducible refine Kd.C_drew ?_))); (case side4 => exact (Kd.R_reads' HO191.out).2.1); rintro e w' ⟨rfl, ⟨nd, rfl⟩⟩; refine ⟨_, rfl, ?_⟩; obtain ⟨Ao39, co39, eo39⟩ := Kd.R_slice HO195.out; subst eo39; obtain ⟨Ao40, co40, eo40⟩ := Kd.R_slice HO199.out; subst eo40) | (go_at_call 12; (with_reducible refine (lamplighterref12_Same.calls kj6 _ _ t192 _ _ t196 true _ ?side1 ?side2 ?side3 ?side4 A29.out).mono ?_); (case side1 => repeat (first | exact (Kd.R_reads' HO195.out).2.2 | (with_reducible refine Kd.C_alloc ?_ _) | (with_reducible refine Kd.C_drewN ?_ _) | (with_reducible refine Kd.C_drew ?_))); (case side2 => exact (Kd.R_reads' HO195.out).2.1); (case side3 => repeat (first | exact (Kd.R_reads' HO199.out).2.2 | (with_reducible refine Kd.C_alloc ?_ _) | (with_reducible refine Kd.C_drewN ?_ _) | (with_reducible refine Kd.C_drew ?_))); (case side4 => exact (Kd.R_reads' HO199.out).2.1); rintro e w' ⟨rfl, ⟨nd, rfl⟩⟩))
                    go_meet
                    case rel => exact ⟨_, (false), (by first | rfl | (simp; done) | (simp [*]; done)), H', ⟨by have := HJ6.out; first | omega | exact Nat.le_refl _⟩, ⟨by repeat (first | (with_reducible first | exact HB.out | apply below_alloc | apply pw_below_drewN | apply below_drew1) | exact HB.out)⟩⟩
                · rw [if_neg c31] at H
                  have c31b0 : (t193 == t197) = false := beq_eq_false_iff_ne.mpr c31
                  have c31b1 : (t193 != t197) = true := bne_iff_ne.mpr c31
                  have H' := Aside0.mk H
                  clear H
                  obtain ⟨Ao41, co41, eo41⟩ := Kd.R_slice HO187.out
                  subst eo41
                  obtain ⟨Ao42, co42, eo42⟩ := Kd.R_slice HO191.out
                  subst eo42
                  go_wp2_with (first | ((with_reducible refine gate_callee (f := 12) rfl ?_); refine goesL_ (some 81) rfl rfl Tryz.func12 (by kernel_rfl) rfl #[.slice Ao41 t184.length co41, .slice Ao42 t188.length co42] rfl (by (try simp only [List.map_toArray, List.map_cons, List.map_nil]); first | done | rfl | (simp only [List.length_drop, List.length_take]; rfl)) ?_; (with_reducible refine (lamplighterref12_Same.calls kj6 _ _ t184 _ _ t188 true _ ?side1 ?side2 ?side3 ?side4 A26.out).mono ?_); (case side1 => repeat (first | exact (Kd.R_reads' HO187.out).2.2 | (with_reducible refine Kd.C_alloc ?_ _) | (with_reducible refine Kd.C_drewN ?_ _) | (with_reducible refine Kd.C_drew ?_))); (case side2 => exact (Kd.R_reads' HO187.out).2.1); (case side3 => repeat (first | exact (Kd.R_reads' HO191.out).2.2 | (with_reducible refine Kd.C_alloc ?_ _) | (with_reducible refine Kd.C_drewN ?_ _) | (with_reducible refine Kd.C_drew ?_))); (case side4 => exact (Kd.R_reads' HO191.out).2.1); rintro e w' ⟨rfl, ⟨nd, rfl⟩⟩; refine ⟨_, rfl, ?_⟩; obtain ⟨Ao43, co43, eo43⟩ := Kd.R_slice HO195.out; subst eo43; obtain ⟨Ao44, co44, eo44⟩ := Kd.R_slice HO199.out; subst eo44) | (go_at_call 12; (with_reducible refine (lamplighterref12_Same.calls kj6 _ _ t192 _ _ t196 true _ ?side1 ?side2 ?side3 ?side4 A29.out).mono ?_); (case side1 => repeat (first | exact (Kd.R_reads' HO195.out).2.2 | (with_reducible refine Kd.C_alloc ?_ _) | (with_reducible refine Kd.C_drewN ?_ _) | (with_reducible refine Kd.C_drew ?_))); (case side2 => exact (Kd.R_reads' HO195.out).2.1); (case side3 => repeat (first | exact (Kd.R_reads' HO199.out).2.2 | (with_reducible refine Kd.C_alloc ?_ _) | (with_reducible refine Kd.C_drewN ?_ _) | (with_reducible refine Kd.C_drew ?_))); (case side4 => exact (Kd.R_reads' HO199.out).2.1); rintro e w' ⟨rfl, ⟨nd, rfl⟩⟩))
                  go_meet
                  case rel => exact ⟨_, (false), (by first | rfl | (simp; done) | (simp [*]; done)), H', ⟨by have := HJ6.out; first | omega | exact Nat.le_refl _⟩, ⟨by repeat (first | (with_reducible first | exact HB.out | apply below_alloc | apply pw_below_drewN | apply below_drew1) | exact HB.out)⟩⟩
              · replace c30 := Bool.eq_false_iff.mpr c30
                subst c30
                have H1 : (lamplighterlaw12_AmapTells.j1 kj6 l2 a3 a4 t182 false) = some r := by rw [if_neg (show ¬ (false = true) by decide)] at H; exact H
                clear H
                have H := H1
                clear H1
                have H' := Aside0.mk H
                clear H
                obtain ⟨Ao45, co45, eo45⟩ := Kd.R_slice HO187.out
                subst eo45
                obtain ⟨Ao46, co46, eo46⟩ := Kd.R_slice HO191.out
                subst eo46
                go_wp2_with (first | ((with_reducible refine gate_callee (f := 12) rfl ?_); refine goesL_ (some 81) rfl rfl Tryz.func12 (by kernel_rfl) rfl #[.slice Ao45 t184.length co45, .slice Ao46 t188.length co46] rfl (by (try simp only [List.map_toArray, List.map_cons, List.map_nil]); first | done | rfl | (simp only [List.length_drop, List.length_take]; rfl)) ?_; (with_reducible refine (lamplighterref12_Same.calls kj6 _ _ t184 _ _ t188 true _ ?side1 ?side2 ?side3 ?side4 A26.out).mono ?_); (case side1 => repeat (first | exact (Kd.R_reads' HO187.out).2.2 | (with_reducible refine Kd.C_alloc ?_ _) | (with_reducible refine Kd.C_drewN ?_ _) | (with_reducible refine Kd.C_drew ?_))); (case side2 => exact (Kd.R_reads' HO187.out).2.1); (case side3 => repeat (first | exact (Kd.R_reads' HO191.out).2.2 | (with_reducible refine Kd.C_alloc ?_ _) | (with_reducible refine Kd.C_drewN ?_ _) | (with_reducible refine Kd.C_drew ?_))); (case side4 => exact (Kd.R_reads' HO191.out).2.1); rintro e w' ⟨rfl, ⟨nd, rfl⟩⟩; refine ⟨_, rfl, ?_⟩; obtain ⟨Ao47, co47, eo47⟩ := Kd.R_slice HO195.out; subst eo47; obtain ⟨Ao48, co48, eo48⟩ := Kd.R_slice HO199.out; subst eo48) | (go_at_call 12; (with_reducible refine (lamplighterref12_Same.calls kj6 _ _ t192 _ _ t196 false _ ?side1 ?side2 ?side3 ?side4 A29.out).mono ?_); (case side1 => repeat (first | exact (Kd.R_reads' HO195.out).2.2 | (with_reducible refine Kd.C_alloc ?_ _) | (with_reducible refine Kd.C_drewN ?_ _) | (with_reducible refine Kd.C_drew ?_))); (case side2 => exact (Kd.R_reads' HO195.out).2.1); (case side3 => repeat (first | exact (Kd.R_reads' HO199.out).2.2 | (with_reducible refine Kd.C_alloc ?_ _) | (with_reducible refine Kd.C_drewN ?_ _) | (with_reducible refine Kd.C_drew ?_))); (case side4 => exact (Kd.R_reads' HO199.out).2.1); rintro e w' ⟨rfl, ⟨nd, rfl⟩⟩))
                go_meet
                case rel => exact ⟨_, (false), (by first | rfl | (simp; done) | (simp [*]; done)), H', ⟨by have := HJ6.out; first | omega | exact Nat.le_refl _⟩, ⟨by repeat (first | (with_reducible first | exact HB.out | apply below_alloc | apply pw_below_drewN | apply below_drew1) | exact HB.out)⟩⟩
            · rw [if_neg c28] at H
              have c28b0 : (t185 == t189) = false := beq_eq_false_iff_ne.mpr c28
              have c28b1 : (t185 != t189) = true := bne_iff_ne.mpr c28
              (first | rw [c28b0] | (simp only [i64_w, i32_w]; rw [c28b0]) | skip)
              have H' := Aside0.mk H
              clear H
              obtain ⟨Ao49, co49, eo49⟩ := Kd.R_slice HO187.out
              subst eo49
              obtain ⟨Ao50, co50, eo50⟩ := Kd.R_slice HO191.out
              subst eo50
              go_wp2_with (first | ((with_reducible refine gate_callee (f := 12) rfl ?_); refine goesL_ (some 81) rfl rfl Tryz.func12 (by kernel_rfl) rfl #[.slice Ao49 t184.length co49, .slice Ao50 t188.length co50] rfl (by (try simp only [List.map_toArray, List.map_cons, List.map_nil]); first | done | rfl | (simp only [List.length_drop, List.length_take]; rfl)) ?_; (with_reducible refine (lamplighterref12_Same.calls kj6 _ _ t184 _ _ t188 true _ ?side1 ?side2 ?side3 ?side4 A26.out).mono ?_); (case side1 => repeat (first | exact (Kd.R_reads' HO187.out).2.2 | (with_reducible refine Kd.C_alloc ?_ _) | (with_reducible refine Kd.C_drewN ?_ _) | (with_reducible refine Kd.C_drew ?_))); (case side2 => exact (Kd.R_reads' HO187.out).2.1); (case side3 => repeat (first | exact (Kd.R_reads' HO191.out).2.2 | (with_reducible refine Kd.C_alloc ?_ _) | (with_reducible refine Kd.C_drewN ?_ _) | (with_reducible refine Kd.C_drew ?_))); (case side4 => exact (Kd.R_reads' HO191.out).2.1); rintro e w' ⟨rfl, ⟨nd, rfl⟩⟩; refine ⟨_, rfl, ?_⟩))
              go_meet
              case rel => exact ⟨_, (false), (by first | rfl | (simp; done) | (simp [*]; done)), H', ⟨by have := HJ6.out; first | omega | exact Nat.le_refl _⟩, ⟨by repeat (first | (with_reducible first | exact HB.out | apply below_alloc | apply pw_below_drewN | apply below_drew1) | exact HB.out)⟩⟩
          · replace c27 := Bool.eq_false_iff.mpr c27
            subst c27
            have H1 : (lamplighterlaw12_AmapTells.j1 kj6 l2 a3 a4 t182 false) = some r := by rw [if_neg (show ¬ (false = true) by decide)] at H; exact H
            clear H
            have H := H1
            clear H1
            have H' := Aside0.mk H
            clear H
            obtain ⟨Ao51, co51, eo51⟩ := Kd.R_slice HO187.out
            subst eo51
            obtain ⟨Ao52, co52, eo52⟩ := Kd.R_slice HO191.out
            subst eo52
            go_wp2_with (first | ((with_reducible refine gate_callee (f := 12) rfl ?_); refine goesL_ (some 81) rfl rfl Tryz.func12 (by kernel_rfl) rfl #[.slice Ao51 t184.length co51, .slice Ao52 t188.length co52] rfl (by (try simp only [List.map_toArray, List.map_cons, List.map_nil]); first | done | rfl | (simp only [List.length_drop, List.length_take]; rfl)) ?_; (with_reducible refine (lamplighterref12_Same.calls kj6 _ _ t184 _ _ t188 false _ ?side1 ?side2 ?side3 ?side4 A26.out).mono ?_); (case side1 => repeat (first | exact (Kd.R_reads' HO187.out).2.2 | (with_reducible refine Kd.C_alloc ?_ _) | (with_reducible refine Kd.C_drewN ?_ _) | (with_reducible refine Kd.C_drew ?_))); (case side2 => exact (Kd.R_reads' HO187.out).2.1); (case side3 => repeat (first | exact (Kd.R_reads' HO191.out).2.2 | (with_reducible refine Kd.C_alloc ?_ _) | (with_reducible refine Kd.C_drewN ?_ _) | (with_reducible refine Kd.C_drew ?_))); (case side4 => exact (Kd.R_reads' HO191.out).2.1); rintro e w' ⟨rfl, ⟨nd, rfl⟩⟩; refine ⟨_, rfl, ?_⟩))
            go_meet
            case rel => exact ⟨_, (false), (by first | rfl | (simp; done) | (simp [*]; done)), H', ⟨by have := HJ6.out; first | omega | exact Nat.le_refl _⟩, ⟨by repeat (first | (with_reducible first | exact HB.out | apply below_alloc | apply pw_below_drewN | apply below_drew1) | exact HB.out)⟩⟩
        case rest =>
          clear HC20
          try clear c1
          try clear c2
          try clear p2
          try clear c3
          try clear c4
          try clear c6
          try clear c7
          try clear c8
          try clear c9
          try clear c9b0
          try clear c9b1
          try clear c10
          try clear c11
          try clear c12
          try clear c12b0
          try clear c12b1
          try clear c13
          try clear c27
          try clear c28
          try clear c28b0
          try clear c28b1
          try clear c30
          try clear c31
          try clear c31b0
          try clear c31b1
          try clear c32
          try clear c32b0
          try clear c32b1
          try clear p2
          obtain ⟨kq, x24_19, rfl, HA, HJ19, HB⟩ := hcut
          cases kq with
          | zero => exact absurd HA.out (by simp [lamplighterlaw12_AmapTells.j1])
          | succ kj19 =>
            have H := HA.out
            clear HA
            simp only [lamplighterlaw12_AmapTells.j1] at H
            by_cases c53 : t182 = true
            · subst c53
              have H1 : (if x24_19 = true then ((amap_With.f l2 a3 a4).bind fun t206 => ((lamplighterref12_With.f kj19 l2 a3 a4).bind fun t209 => ((lamplighterref12_Same.f kj19 t206 t209).bind fun t212 => (if t212 = true then ((amap_Without.f l2 a3).bind fun t213 => ((lamplighterref12_Without.f kj19 l2 a3).bind fun t216 => ((lamplighterref12_Same.f kj19 t213 t216).bind fun t219 => (some t219)))) else (none))))) else (none)) = some r := by rw [if_pos rfl] at H; exact H
              clear H
              have H := H1
              clear H1
              by_cases c54 : x24_19 = true
              · subst c54
                have H1 : ((amap_With.f l2 a3 a4).bind fun t206 => ((lamplighterref12_With.f kj19 l2 a3 a4).bind fun t209 => ((lamplighterref12_Same.f kj19 t206 t209).bind fun t212 => (if t212 = true then ((amap_Without.f l2 a3).bind fun t213 => ((lamplighterref12_Without.f kj19 l2 a3).bind fun t216 => ((lamplighterref12_Same.f kj19 t213 t216).bind fun t219 => (some t219)))) else (none))))) = some r := by rw [if_pos rfl] at H; exact H
                clear H
                have H := H1
                clear H1
                replace H := Option.bind_eq_some_iff.mp H
                obtain ⟨t206, A550, H⟩ := H
                replace H : ((lamplighterref12_With.f kj19 l2 a3 a4).bind fun t209 => ((lamplighterref12_Same.f kj19 t206 t209).bind fun t212 => (if t212 = true then ((amap_Without.f l2 a3).bind fun t213 => ((lamplighterref12_Without.f kj19 l2 a3).bind fun t216 => ((lamplighterref12_Same.f kj19 t213 t216).bind fun t219 => (some t219)))) else (none)))) = some r := H
                have A55 := Aside0.mk A550
                clear A550
                replace H := Option.bind_eq_some_iff.mp H
                obtain ⟨t209, A560, H⟩ := H
                replace H : ((lamplighterref12_Same.f kj19 t206 t209).bind fun t212 => (if t212 = true then ((amap_Without.f l2 a3).bind fun t213 => ((lamplighterref12_Without.f kj19 l2 a3).bind fun t216 => ((lamplighterref12_Same.f kj19 t213 t216).bind fun t219 => (some t219)))) else (none))) = some r := H
                have A56 := Aside0.mk A560
                clear A560
                replace H := Option.bind_eq_some_iff.mp H
                obtain ⟨t212, A570, H⟩ := H
                replace H : (if t212 = true then ((amap_Without.f l2 a3).bind fun t213 => ((lamplighterref12_Without.f kj19 l2 a3).bind fun t216 => ((lamplighterref12_Same.f kj19 t213 t216).bind fun t219 => (some t219)))) else (none)) = some r := H
                have A57 := Aside0.mk A570
                clear A570
                by_cases c58 : t212 = true
                · subst c58
                  have H1 : ((amap_Without.f l2 a3).bind fun t213 => ((lamplighterref12_Without.f kj19 l2 a3).bind fun t216 => ((lamplighterref12_Same.f kj19 t213 t216).bind fun t219 => (some t219)))) = some r := by rw [if_pos rfl] at H; exact H
                  clear H
                  have H := H1
                  clear H1
                  replace H := Option.bind_eq_some_iff.mp H
                  obtain ⟨t213, A590, H⟩ := H
                  replace H : ((lamplighterref12_Without.f kj19 l2 a3).bind fun t216 => ((lamplighterref12_Same.f kj19 t213 t216).bind fun t219 => (some t219))) = some r := H
                  have A59 := Aside0.mk A590
                  clear A590
                  replace H := Option.bind_eq_some_iff.mp H
                  obtain ⟨t216, A600, H⟩ := H
                  replace H : ((lamplighterref12_Same.f kj19 t213 t216).bind fun t219 => (some t219)) = some r := H
                  have A60 := Aside0.mk A600
                  clear A600
                  replace H := Option.bind_eq_some_iff.mp H
                  obtain ⟨t219, A610, H⟩ := H
                  replace H : (some t219) = some r := H
                  have A61 := Aside0.mk A610
                  clear A610
                  obtain rfl := Option.some.inj H
                  go_wp2_with (first | (go_at_call 13; (with_reducible refine (amap_With.calls _ _ l2 a3 a4 t206 _ ?side1 ?side2 A55.out).mono ?_); (case side1 => repeat (first | exact (Kd.C_below HR2.out HB.out) | (with_reducible refine Kd.C_alloc ?_ _) | (with_reducible refine Kd.C_drewN ?_ _) | (with_reducible refine Kd.C_drew ?_))); (case side2 => exact HC2.out); rintro e w62 ⟨v207, rfl, ho0, hb⟩; have n0_ := Aside0.mk (Kd.R_lower ho0 (below_size (by repeat (first | (with_reducible first | exact HB.out | apply below_alloc | apply pw_below_drewN | apply below_drew1) | exact HB.out)))); have n1_ := Aside0.mk (below_step (by repeat (first | (with_reducible first | exact HB.out | apply below_alloc | apply pw_below_drewN | apply below_drew1) | exact HB.out)) hb); clear HB; have HO208 := n0_; have HB := n1_; clear n0_ n1_; (try clear hb); (try clear hb2); (try clear hk); (try clear hi); (try clear ho0)) | (go_at_call 14; (with_reducible refine (lamplighterref12_With.calls kj19 _ _ l2 a3 a4 t209 _ ?side1 ?side2 A56.out).mono ?_); (case side1 => repeat (first | exact (Kd.C_below HR2.out HB.out) | (with_reducible refine Kd.C_alloc ?_ _) | (with_reducible refine Kd.C_drewN ?_ _) | (with_reducible refine Kd.C_drew ?_))); (case side2 => exact HC2.out); rintro e w63 ⟨v210, rfl, ho0, hb⟩; have n0_ := Aside0.mk (Kd.R_elder' (by (with_reducible repeat (first | apply Kd.R_alloc | apply Kd.R_drewN | apply Kd.R_drew)); exact HO208.out) (Kd.R_base ho0) hb); have n1_ := Aside0.mk (Kd.R_lower (Kd.R_new' ho0 (Kd.R_lt (by (with_reducible repeat (first | apply Kd.R_alloc | apply Kd.R_drewN | apply Kd.R_drew)); exact HO208.out))) (below_size (by repeat (first | (with_reducible first | exact HB.out | apply below_alloc | apply pw_below_drewN | apply below_drew1) | exact HB.out)))); have n2_ := Aside0.mk (below_step (by repeat (first | (with_reducible first | exact HB.out | apply below_alloc | apply pw_below_drewN | apply below_drew1) | exact HB.out)) hb); clear HO208; clear HB; have HO208 := n0_; have HO211 := n1_; have HB := n2_; clear n0_ n1_ n2_; (try clear hb); (try clear hb2); (try clear hk); (try clear hi); (try clear ho0); obtain ⟨Ao64, co64, eo64⟩ := Kd.R_slice HO208.out; subst eo64; obtain ⟨Ao65, co65, eo65⟩ := Kd.R_slice HO211.out; subst eo65) | (go_at_call 12; (with_reducible refine (lamplighterref12_Same.calls kj19 _ _ t206 _ _ t209 true _ ?side1 ?side2 ?side3 ?side4 A57.out).mono ?_); (case side1 => repeat (first | exact (Kd.R_reads' HO208.out).2.2 | (with_reducible refine Kd.C_alloc ?_ _) | (with_reducible refine Kd.C_drewN ?_ _) | (with_reducible refine Kd.C_drew ?_))); (case side2 => exact (Kd.R_reads' HO208.out).2.1); (case side3 => repeat (first | exact (Kd.R_reads' HO211.out).2.2 | (with_reducible refine Kd.C_alloc ?_ _) | (with_reducible refine Kd.C_drewN ?_ _) | (with_reducible refine Kd.C_drew ?_))); (case side4 => exact (Kd.R_reads' HO211.out).2.1); rintro e w' ⟨rfl, ⟨nd, rfl⟩⟩) | (go_at_call 15; (with_reducible refine (amap_Without.calls _ _ l2 a3 t213 _ ?side1 ?side2 A59.out).mono ?_); (case side1 => repeat (first | exact (Kd.C_below HR2.out (by repeat (first | (with_reducible first | exact HB.out | apply below_alloc | apply pw_below_drewN | apply below_drew1) | exact HB.out))) | (with_reducible refine Kd.C_alloc ?_ _) | (with_reducible refine Kd.C_drewN ?_ _) | (with_reducible refine Kd.C_drew ?_))); (case side2 => exact HC2.out); rintro e w66 ⟨v214, rfl, ho0, hb⟩; have n0_ := Aside0.mk (Kd.R_elder' (by (with_reducible repeat (first | apply Kd.R_alloc | apply Kd.R_drewN | apply Kd.R_drew)); exact HO208.out) (Kd.R_base ho0) hb); have n1_ := Aside0.mk (Kd.R_elder' (by (with_reducible repeat (first | apply Kd.R_alloc | apply Kd.R_drewN | apply Kd.R_drew)); exact HO211.out) (Kd.R_base ho0) hb); have n2_ := Aside0.mk (Kd.R_lower (Kd.R_new' (Kd.R_new' ho0 (Kd.R_lt (by (with_reducible repeat (first | apply Kd.R_alloc | apply Kd.R_drewN | apply Kd.R_drew)); exact HO208.out))) (Kd.R_lt (by (with_reducible repeat (first | apply Kd.R_alloc | apply Kd.R_drewN | apply Kd.R_drew)); exact HO211.out))) (below_size (by repeat (first | (with_reducible first | exact HB.out | apply below_alloc | apply pw_below_drewN | apply below_drew1) | exact HB.out)))); have n3_ := Aside0.mk (below_step (by repeat (first | (with_reducible first | exact HB.out | apply below_alloc | apply pw_below_drewN | apply below_drew1) | exact HB.out)) hb); clear HO208; clear HO211; clear HB; have HO208 := n0_; have HO211 := n1_; have HO215 := n2_; have HB := n3_; clear n0_ n1_ n2_ n3_; (try clear hb); (try clear hb2); (try clear hk); (try clear hi); (try clear ho0)) | (go_at_call 16; (with_reducible refine (lamplighterref12_Without.calls kj19 _ _ l2 a3 t216 _ ?side1 ?side2 A60.out).mono ?_); (case side1 => repeat (first | exact (Kd.C_below HR2.out HB.out) | (with_reducible refine Kd.C_alloc ?_ _) | (with_reducible refine Kd.C_drewN ?_ _) | (with_reducible refine Kd.C_drew ?_))); (case side2 => exact HC2.out); rintro e w67 ⟨v217, rfl, ho0, hb⟩; have n0_ := Aside0.mk (Kd.R_elder' (by (with_reducible repeat (first | apply Kd.R_alloc | apply Kd.R_drewN | apply Kd.R_drew)); exact HO208.out) (Kd.R_base ho0) hb); have n1_ := Aside0.mk (Kd.R_elder' (by (with_reducible repeat (first | apply Kd.R_alloc | apply Kd.R_drewN | apply Kd.R_drew)); exact HO211.out) (Kd.R_base ho0) hb); have n2_ := Aside0.mk (Kd.R_elder' (by (with_reducible repeat (first | apply Kd.R_alloc | apply Kd.R_drewN | apply Kd.R_drew)); exact HO215.out) (Kd.R_base ho0) hb); have n3_ := Aside0.mk (Kd.R_lower (Kd.R_new' (Kd.R_new' (Kd.R_new' ho0 (Kd.R_lt (by (with_reducible repeat (first | apply Kd.R_alloc | apply Kd.R_drewN | apply Kd.R_drew)); exact HO208.out))) (Kd.R_lt (by (with_reducible repeat (first | apply Kd.R_alloc | apply Kd.R_drewN | apply Kd.R_drew)); exact HO211.out))) (Kd.R_lt (by (with_reducible repeat (first | apply Kd.R_alloc | apply Kd.R_drewN | apply Kd.R_drew)); exact HO215.out))) (below_size (by repeat (first | (with_reducible first | exact HB.out | apply below_alloc | apply pw_below_drewN | apply below_drew1) | exact HB.out)))); have n4_ := Aside0.mk (below_step (by repeat (first | (with_reducible first | exact HB.out | apply below_alloc | apply pw_below_drewN | apply below_drew1) | exact HB.out)) hb); clear HO208; clear HO211; clear HO215; clear HB; have HO208 := n0_; have HO211 := n1_; have HO215 := n2_; have HO218 := n3_; have HB := n4_; clear n0_ n1_ n2_ n3_ n4_; (try clear hb); (try clear hb2); (try clear hk); (try clear hi); (try clear ho0); obtain ⟨Ao68, co68, eo68⟩ := Kd.R_slice HO215.out; subst eo68; obtain ⟨Ao69, co69, eo69⟩ := Kd.R_slice HO218.out; subst eo69) | (go_at_call 12; (with_reducible refine (lamplighterref12_Same.calls kj19 _ _ t213 _ _ t216 t219 _ ?side1 ?side2 ?side3 ?side4 A61.out).mono ?_); (case side1 => repeat (first | exact (Kd.R_reads' HO215.out).2.2 | (with_reducible refine Kd.C_alloc ?_ _) | (with_reducible refine Kd.C_drewN ?_ _) | (with_reducible refine Kd.C_drew ?_))); (case side2 => exact (Kd.R_reads' HO215.out).2.1); (case side3 => repeat (first | exact (Kd.R_reads' HO218.out).2.2 | (with_reducible refine Kd.C_alloc ?_ _) | (with_reducible refine Kd.C_drewN ?_ _) | (with_reducible refine Kd.C_drew ?_))); (case side4 => exact (Kd.R_reads' HO218.out).2.1); rintro e w' ⟨rfl, ⟨nd, rfl⟩⟩))
                  go_ret
                  exact ⟨by first | rfl | (simp [errW_none, errW_some] <;> rfl) | (simp [*, errW_none, errW_some] <;> rfl), by repeat (first | (with_reducible first | exact HB.out | apply below_alloc | apply pw_below_drewN | apply below_drew1) | exact HB.out)⟩
                · replace c58 := Bool.eq_false_iff.mpr c58
                  subst c58
                  have H1 : (none) = some r := by rw [if_neg (show ¬ (false = true) by decide)] at H; exact H
                  clear H
                  have H := H1
                  clear H1
                  exact absurd H (by simp)
              · replace c54 := Bool.eq_false_iff.mpr c54
                subst c54
                have H1 : (none) = some r := by rw [if_neg (show ¬ (false = true) by decide)] at H; exact H
                clear H
                have H := H1
                clear H1
                exact absurd H (by simp)
            · replace c53 := Bool.eq_false_iff.mpr c53
              subst c53
              have H1 : (none) = some r := by rw [if_neg (show ¬ (false = true) by decide)] at H; exact H
              clear H
              have H := H1
              clear H1
              exact absurd H (by simp)

end
end Go.Proofs.YtliaemoomhfcdaaGreat.AT
