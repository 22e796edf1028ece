/- Written by this session's own program (hprint.py) with the help of the kit's print. Lean checks it. -/
import Derived.Test.YtliaemoomhfcdaaMQ
import Derived.Test.YtliaemoomhfcdaaISx0
import Derived.Test.YtliaemoomhfcdaaISx1
import Derived.Test.YtliaemoomhfcdaaISx2
import Derived.Test.YtliaemoomhfcdaaGivenSN
import Derived.Test.YtliaemoomhfcdaaMA
namespace Go.Proofs.Ytliaemoomhfcdaa.IS
attribute [local go_sem] Go.Proofs.Ytliaemoomhfcdaa.le_flip
open Go.Proofs.Ytliaemoomhfcdaa.LC Go.Proofs.Ytliaemoomhfcdaa.AW Go.Proofs.Ytliaemoomhfcdaa.ID Go.Proofs.Ytliaemoomhfcdaa.SN   -- OPENED
open Go.RowKit Go.Proofs.YtliaemoomhfcdaaW.PrintWords Go.Proofs.YtliaemoomhfcdaaW.PrintLast Go.Proofs.YtliaemoomhfcdaaW.PrintMore
attribute [local go_sem] max2_int min2_int max_two min_two max_three min_three max_four min_four   -- for this text's walks alone
set_option linter.unusedVariables false
set_option linter.unusedSimpArgs false
noncomputable section

/-! ### index_Sound: function 29 -/
mutual
def index_Sound.j0 : Nat → List Int → Int → Bool → Int → Int → Int → Int → List Int → Option (Bool)
  | 0, _, _, _, _, _, _, _, _ => none
  | k + 1, x0, x4, x40, x172000, x172001, x172002, x172003, x172004 => if x40 = true then (some (x4 == 1)) else ((index_level.f k x0 x4 x172000).bind fun bt172 => (index_Sound.l0 k x0 bt172.1 bt172.2 x172000))
def index_Sound.l0 : Nat → List Int → List Int → Bool → Int → Option (Bool)
  | 0, _, _, _, _ => none
  | k + 1, x0, x8, x9, x10 => if x9 = true then (index_Sound.j2 k x0 x8 x9 x10 (decide (x10 > 0))) else (index_Sound.j2 k x0 x8 x9 x10 false)
def index_Sound.j2 : Nat → List Int → List Int → Bool → Int → Bool → Option (Bool)
  | 0, _, _, _, _, _ => none
  | k + 1, x0, x8, x9, x10, x57 => if x57 = true then ((index_below.f k x0 x8 x10).bind fun bt176 => (if bt176.2 = true then (index_Sound.l1 k x0 bt176.2 x10 bt176.1 (⟨#[]⟩ : ByteArray) x8 (x8.length : Int) 0) else (some bt176.2))) else (some x9)
def index_Sound.l1 : Nat → List Int → Bool → Int → List Int → ByteArray → List Int → Int → Int → Option (Bool)
  | 0, _, _, _, _, _, _, _, _ => none
  | k + 1, x0, x9, x10, x11, x12, x69, x70, x71 => if x71 < x70 then (if 0 ≤ x71 then (if x71 < (x69.length : Int) then ((node_Read.f x0 (rd x69 x71)).bind fun bt181 => ((arena_Low.f x0 (rd x69 x71)).bind fun bt190 => (if x9 = true then (if bt190.2 = 0 then (if x71 = 0 then (if bt181.2.2.2.1 = 0 then ((index_leads.f k x0 bt181.1 bt181.2.1 bt181.2.2.1 bt181.2.2.2.1 bt181.2.2.2.2.1 bt190.1 x11).bind fun t192 => (index_Sound.l1 k x0 t192 x10 x11 bt190.1 x69 x70 (wrap64 (x71 + 1)))) else (if x71 > 0 then (if (Op.bytesLess x12.toList bt190.1.toList) = true then ((index_leads.f k x0 bt181.1 bt181.2.1 bt181.2.2.1 bt181.2.2.2.1 bt181.2.2.2.2.1 bt190.1 x11).bind fun t193 => (index_Sound.l1 k x0 t193 x10 x11 bt190.1 x69 x70 (wrap64 (x71 + 1)))) else (index_Sound.l1 k x0 false x10 x11 bt190.1 x69 x70 (wrap64 (x71 + 1)))) else (index_Sound.l1 k x0 false x10 x11 bt190.1 x69 x70 (wrap64 (x71 + 1))))) else (if x71 > 0 then (if (Op.bytesLess x12.toList bt190.1.toList) = true then ((index_leads.f k x0 bt181.1 bt181.2.1 bt181.2.2.1 bt181.2.2.2.1 bt181.2.2.2.2.1 bt190.1 x11).bind fun t194 => (index_Sound.l1 k x0 t194 x10 x11 bt190.1 x69 x70 (wrap64 (x71 + 1)))) else (index_Sound.l1 k x0 false x10 x11 bt190.1 x69 x70 (wrap64 (x71 + 1)))) else (index_Sound.l1 k x0 false x10 x11 bt190.1 x69 x70 (wrap64 (x71 + 1))))) else (index_Sound.l1 k x0 false x10 x11 bt190.1 x69 x70 (wrap64 (x71 + 1)))) else (index_Sound.l1 k x0 false x10 x11 bt190.1 x69 x70 (wrap64 (x71 + 1)))))) else (none)) else (none)) else (index_Sound.l0 k x0 x11 x9 (wrap64 (x10 - 1)))
end
def index_Sound.f (k : Nat) (l0 : List Int) : Option (Bool) := (arena_Check.f l0).bind fun t159 => (if t159 = 0 then ((super_Read.f l0).bind fun bt160 => ((node_Read.f l0 bt160.2.1).bind fun bt163 => (if bt163.2.2.2.2.2 = 0 then (index_Sound.j0 k l0 bt160.2.1 (bt163.1 == 0) bt163.1 bt163.2.1 bt163.2.2.1 bt163.2.2.2.1 bt163.2.2.2.2.1) else (index_Sound.j0 k l0 bt160.2.1 true bt163.1 bt163.2.1 bt163.2.2.1 bt163.2.2.2.1 bt163.2.2.2.2.1)))) else (some false))
theorem index_Sound.mono_l : ∀ k, (∀ y0 y1 y2 y3 y4 y5 y6 y7, LeO (index_Sound.j0 k y0 y1 y2 y3 y4 y5 y6 y7) (index_Sound.j0 (k + 1) y0 y1 y2 y3 y4 y5 y6 y7)) ∧ (∀ y0 y1 y2 y3, LeO (index_Sound.l0 k y0 y1 y2 y3) (index_Sound.l0 (k + 1) y0 y1 y2 y3)) ∧ (∀ y0 y1 y2 y3 y4, LeO (index_Sound.j2 k y0 y1 y2 y3 y4) (index_Sound.j2 (k + 1) y0 y1 y2 y3 y4)) ∧ (∀ y0 y1 y2 y3 y4 y5 y6 y7, LeO (index_Sound.l1 k y0 y1 y2 y3 y4 y5 y6 y7) (index_Sound.l1 (k + 1) y0 y1 y2 y3 y4 y5 y6 y7))
  | 0 => ⟨fun _ _ _ _ _ _ _ _ r h => by simp [index_Sound.j0] at h, fun _ _ _ _ r h => by simp [index_Sound.l0] at h, fun _ _ _ _ _ r h => by simp [index_Sound.j2] at h, fun _ _ _ _ _ _ _ _ r h => by simp [index_Sound.l1] at h⟩
  | k + 1 => by
    obtain ⟨ih0, ih1, ih2, ih3⟩ := index_Sound.mono_l k
    refine ⟨?_, ?_, ?_, ?_⟩
    · intro y0 y1 y2 y3 y4 y5 y6 y7
      unfold index_Sound.j0
      repeat' first
      | (with_reducible exact ih0 _ _ _ _ _ _ _ _)
      | (with_reducible exact ih1 _ _ _ _)
      | (with_reducible exact ih2 _ _ _ _ _)
      | (with_reducible exact ih3 _ _ _ _ _ _ _ _)
      | (with_reducible exact index_below.mono _ _ _ _)
      | (with_reducible exact index_leads.mono _ _ _ _ _ _ _ _ _)
      | (with_reducible exact index_level.mono _ _ _ _)
      | (with_reducible exact LeO.refl _)
      | (with_reducible exact LeO.none _)
      | (with_reducible refine LeO.ite ?_ ?_)
      | (with_reducible refine LeO.bind ?_ (fun _ => ?_))
      | exact ih0 _ _ _ _ _ _ _ _
      | exact ih1 _ _ _ _
      | exact ih2 _ _ _ _ _
      | exact ih3 _ _ _ _ _ _ _ _
      | exact index_below.mono _ _ _ _
      | exact index_leads.mono _ _ _ _ _ _ _ _ _
      | exact index_level.mono _ _ _ _
      | exact LeO.none _
      | refine LeO.ite ?_ ?_
      | refine LeO.bind ?_ (fun _ => ?_)
    · intro y0 y1 y2 y3
      unfold index_Sound.l0
      repeat' first
      | (with_reducible exact ih0 _ _ _ _ _ _ _ _)
      | (with_reducible exact ih1 _ _ _ _)
      | (with_reducible exact ih2 _ _ _ _ _)
      | (with_reducible exact ih3 _ _ _ _ _ _ _ _)
      | (with_reducible exact index_below.mono _ _ _ _)
      | (with_reducible exact index_leads.mono _ _ _ _ _ _ _ _ _)
      | (with_reducible exact index_level.mono _ _ _ _)
      | (with_reducible exact LeO.refl _)
      | (with_reducible exact LeO.none _)
      | (with_reducible refine LeO.ite ?_ ?_)
      | (with_reducible refine LeO.bind ?_ (fun _ => ?_))
      | exact ih0 _ _ _ _ _ _ _ _
      | exact ih1 _ _ _ _
      | exact ih2 _ _ _ _ _
      | exact ih3 _ _ _ _ _ _ _ _
      | exact index_below.mono _ _ _ _
      | exact index_leads.mono _ _ _ _ _ _ _ _ _
      | exact index_level.mono _ _ _ _
      | exact LeO.none _
      | refine LeO.ite ?_ ?_
      | refine LeO.bind ?_ (fun _ => ?_)
    · intro y0 y1 y2 y3 y4
      unfold index_Sound.j2
      repeat' first
      | (with_reducible exact ih0 _ _ _ _ _ _ _ _)
      | (with_reducible exact ih1 _ _ _ _)
      | (with_reducible exact ih2 _ _ _ _ _)
      | (with_reducible exact ih3 _ _ _ _ _ _ _ _)
      | (with_reducible exact index_below.mono _ _ _ _)
      | (with_reducible exact index_leads.mono _ _ _ _ _ _ _ _ _)
      | (with_reducible exact index_level.mono _ _ _ _)
      | (with_reducible exact LeO.refl _)
      | (with_reducible exact LeO.none _)
      | (with_reducible refine LeO.ite ?_ ?_)
      | (with_reducible refine LeO.bind ?_ (fun _ => ?_))
      | exact ih0 _ _ _ _ _ _ _ _
      | exact ih1 _ _ _ _
      | exact ih2 _ _ _ _ _
      | exact ih3 _ _ _ _ _ _ _ _
      | exact index_below.mono _ _ _ _
      | exact index_leads.mono _ _ _ _ _ _ _ _ _
      | exact index_level.mono _ _ _ _
      | exact LeO.none _
      | refine LeO.ite ?_ ?_
      | refine LeO.bind ?_ (fun _ => ?_)
    · intro y0 y1 y2 y3 y4 y5 y6 y7
      unfold index_Sound.l1
      repeat' first
      | (with_reducible exact ih0 _ _ _ _ _ _ _ _)
      | (with_reducible exact ih1 _ _ _ _)
      | (with_reducible exact ih2 _ _ _ _ _)
      | (with_reducible exact ih3 _ _ _ _ _ _ _ _)
      | (with_reducible exact index_below.mono _ _ _ _)
      | (with_reducible exact index_leads.mono _ _ _ _ _ _ _ _ _)
      | (with_reducible exact index_level.mono _ _ _ _)
      | (with_reducible exact LeO.refl _)
      | (with_reducible exact LeO.none _)
      | (with_reducible refine LeO.ite ?_ ?_)
      | (with_reducible refine LeO.bind ?_ (fun _ => ?_))
      | exact ih0 _ _ _ _ _ _ _ _
      | exact ih1 _ _ _ _
      | exact ih2 _ _ _ _ _
      | exact ih3 _ _ _ _ _ _ _ _
      | exact index_below.mono _ _ _ _
      | exact index_leads.mono _ _ _ _ _ _ _ _ _
      | exact index_level.mono _ _ _ _
      | exact LeO.none _
      | refine LeO.ite ?_ ?_
      | refine LeO.bind ?_ (fun _ => ?_)
theorem index_Sound.mono : ∀ a0 k, LeO (index_Sound.f k a0) (index_Sound.f (k + 1) a0) := by
 intro a0 k
 obtain ⟨ih0, ih1, ih2, ih3⟩ := index_Sound.mono_l k
 unfold index_Sound.f
 repeat' first
     | (with_reducible exact ih0 _ _ _ _ _ _ _ _)
     | (with_reducible exact ih1 _ _ _ _)
     | (with_reducible exact ih2 _ _ _ _ _)
     | (with_reducible exact ih3 _ _ _ _ _ _ _ _)
     | (with_reducible exact index_below.mono _ _ _ _)
     | (with_reducible exact index_leads.mono _ _ _ _ _ _ _ _ _)
     | (with_reducible exact index_level.mono _ _ _ _)
     | (with_reducible exact LeO.refl _)
     | (with_reducible exact LeO.none _)
     | (with_reducible refine LeO.ite ?_ ?_)
     | (with_reducible refine LeO.bind ?_ (fun _ => ?_))
     | exact ih0 _ _ _ _ _ _ _ _
     | exact ih1 _ _ _ _
     | exact ih2 _ _ _ _ _
     | exact ih3 _ _ _ _ _ _ _ _
     | exact index_below.mono _ _ _ _
     | exact index_leads.mono _ _ _ _ _ _ _ _ _
     | exact index_level.mono _ _ _ _
     | exact LeO.none _
     | refine LeO.ite ?_ ?_
     | refine LeO.bind ?_ (fun _ => ?_)
set_option maxHeartbeats 8000000 in
set_option maxRecDepth 100000 in
theorem index_Sound.calls (k : Nat) (A0 : Option Addr) (c0 : Nat) (l0 : List Int) (r : Bool) (w : World) (hr0 : Kd.C (Kd.int .i64) w A0 l0.length l0) (hc0 : l0.length ≤ c0) (h : index_Sound.f k l0 = some r) :
    Calls Try.prog 29 #[.slice A0 l0.length c0] w fun e w' => e = .returned (.bool r) ∧ Below w.heap.size w w' := by
 have hu24 := Try.underlying24
 have HR0 := Aside0.mk hr0
 have HC0 := Aside0.mk hc0
 clear hr0 hc0
 have HB := Aside0.mk (Below.refl w.heap.size w)
 have H : ((arena_Check.f l0).bind fun t159 => (if t159 = 0 then ((super_Read.f l0).bind fun bt160 => ((node_Read.f l0 bt160.2.1).bind fun bt163 => (if bt163.2.2.2.2.2 = 0 then (index_Sound.j0 k l0 bt160.2.1 (bt163.1 == 0) bt163.1 bt163.2.1 bt163.2.2.1 bt163.2.2.2.1 bt163.2.2.2.2.1) else (index_Sound.j0 k l0 bt160.2.1 true bt163.1 bt163.2.1 bt163.2.2.1 bt163.2.2.2.1 bt163.2.2.2.2.1)))) else (some false))) = some r := h
 clear h
 replace H := Option.bind_eq_some_iff.mp H
 obtain ⟨t159, A20, H⟩ := H
 try dsimp only at H
 have A2 := Aside0.mk A20
 clear A20
 by_cases c3 : t159 = 0
 rotate_left
 · rw [if_neg c3] at H
   have c3b0 : (t159 == 0) = false := beq_eq_false_iff_ne.mpr c3
   have c3b1 : (t159 != 0) = true := bne_iff_ne.mpr c3
   obtain rfl := Option.some.inj H
   go_enter Try.func29, Try.ntmps29
   go_wp2_with (first | ((with_reducible refine gate_callee (f := 23) rfl ?_); refine goesL_ (some 20) rfl rfl Try.func23 (by kernel_rfl) rfl #[.slice A0 l0.length c0] rfl qm_ ?_; (with_reducible refine (arena_Check.calls _ _ l0 t159 _ ?side1 ?side2 A2.out).mono ?_); (case side1 => repeat (first | exact HR0.out | (with_reducible refine Kd.C_alloc ?_ _) | (with_reducible refine Kd.C_drewN ?_ _) | (with_reducible refine Kd.C_drew ?_))); (case side2 => exact HC0.out); rintro e wv1 ⟨rfl, hb⟩; refine ⟨_, rfl, ?_⟩; have n0_ := Aside0.mk (below_step qh_ hb); clear HB; have HB := n0_; clear n0_; (try clear hb); (try clear hbv1); (try clear hk); (try clear hi)))
   go_ret
   exact ⟨qe_, qh_⟩
 rw [if_pos c3] at H
 have c3b0 : (t159 == 0) = true := beq_iff_eq.mpr c3
 have c3b1 : (t159 != 0) = false := bne_eq_false_iff_eq.mpr c3
 clear c3
 replace H := Option.bind_eq_some_iff.mp H
 obtain ⟨⟨tv1, tv2, tv3⟩, Av1, H⟩ := H
 try dsimp only at H
 have Av2 := Aside0.mk Av1
 clear Av1
 replace H := Option.bind_eq_some_iff.mp H
 obtain ⟨⟨tv4, tv5, tv6, tv7, tv8, tv9⟩, Av3, H⟩ := H
 try dsimp only at H
 have Av4 := Aside0.mk Av3
 clear Av3
 have HCv1 := Aside0.mk H
 clear H
 go_enter Try.func29, Try.ntmps29
 go_upto_region 5 with (first | ((with_reducible refine gate_callee (f := 23) rfl ?_); refine goesL_ (some 20) rfl rfl Try.func23 (by kernel_rfl) rfl #[.slice A0 l0.length c0] rfl qm_ ?_; (with_reducible refine (arena_Check.calls _ _ l0 t159 _ ?side1 ?side2 A2.out).mono ?_); (case side1 => repeat (first | exact HR0.out | (with_reducible refine Kd.C_alloc ?_ _) | (with_reducible refine Kd.C_drewN ?_ _) | (with_reducible refine Kd.C_drew ?_))); (case side2 => exact HC0.out); rintro e wv1 ⟨rfl, hb⟩; refine ⟨_, rfl, ?_⟩; have n0_ := Aside0.mk (below_step qh_ hb); clear HB; have HB := n0_; clear n0_; (try clear hb); (try clear hbv1); (try clear hk); (try clear hi)) | ((with_reducible refine gate_callee (f := 31) rfl ?_); refine goesL_ (some 24) rfl rfl Try.func31 (by kernel_rfl) rfl #[.slice A0 l0.length c0] rfl qm_ ?_; (with_reducible refine (super_Read.calls _ _ l0 tv1 tv2 tv3 _ ?side1 ?side2 Av2.out).mono ?_); (case side1 => repeat (first | exact (Kd.C_below HR0.out HB.out) | (with_reducible refine Kd.C_alloc ?_ _) | (with_reducible refine Kd.C_drewN ?_ _) | (with_reducible refine Kd.C_drew ?_))); (case side2 => exact HC0.out); rintro e wv2 ⟨rfl, hb⟩; refine ⟨_, rfl, ?_⟩; have n0_ := Aside0.mk (below_step qh_ hb); clear HB; have HB := n0_; clear n0_; (try clear hb); (try clear hbv1); (try clear hk); (try clear hi)) | ((with_reducible refine gate_callee (f := 21) rfl ?_); refine goesL_ (some 31) rfl rfl Try.func21 (by kernel_rfl) rfl #[.slice A0 l0.length c0, .int .i64 tv2] rfl qm_ ?_; (with_reducible refine (node_Read.calls _ _ l0 tv2 tv4 tv5 tv6 tv7 tv8 tv9 _ ?side1 ?side2 Av4.out).mono ?_); (case side1 => repeat (first | exact (Kd.C_below HR0.out HB.out) | (with_reducible refine Kd.C_alloc ?_ _) | (with_reducible refine Kd.C_drewN ?_ _) | (with_reducible refine Kd.C_drew ?_))); (case side2 => exact HC0.out); rintro e wv3 ⟨vv1, rfl, hov1, hb⟩; refine ⟨_, rfl, ?_⟩; have n0_ := Aside0.mk (Kd.R_lower hov1 (below_size qh_)); have n1_ := Aside0.mk (below_step qh_ hb); clear HB; have HOv1 := n0_; have HB := n1_; clear n0_ n1_; (try clear hb); (try clear hbv1); (try clear hk); (try clear hi); (try clear hov1)) | ((with_reducible refine gate_dst (N := 6) rfl ?_); refine box_event ?hg (N := 6) ?hd (cs := #[.int .i64 0, .int .i64 0, .int .i64 0, .int .i64 0, .slice none 0 0]) (t := 24) ?hr ?_; (case hd => rfl); (case hg => rfl); (case hr => first | (go_simp; done) | (go_simp; rfl)); intro gbv1 hg wv4 hbox hb; have n0_ := Aside0.mk (Kd.R_below (qr_ HOv1.out) hb); have n1_ := Aside0.mk (below_step qh_ hb); have n2_ := Aside0.mk (hbox); have n3_ := Aside0.mk ((by rw [hg]; exact (below_size qh_) : w.heap.size ≤ gbv1)); have n4_ := Aside0.mk ((by rw [hg]; exact (below_size qh_) : w.heap.size ≤ gbv1)); clear HOv1; clear HB; have HOv1 := n0_; have HB := n1_; have BKv1 := n2_; have GWv1 := n3_; have GEv1 := n4_; clear n0_ n1_ n2_ n3_ n4_; clear hb hbox hg; have hczv1 : wv4.cell? ⟨gbv1, 0, none⟩ = some (.int .i64 0) := (blk_cell BKv1.out 0).trans rfl; have hczv2 : wv4.cell? ⟨gbv1, 1, none⟩ = some (.int .i64 0) := (blk_cell BKv1.out 1).trans rfl; have hczv3 : wv4.cell? ⟨gbv1, 2, none⟩ = some (.int .i64 0) := (blk_cell BKv1.out 2).trans rfl; have hczv4 : wv4.cell? ⟨gbv1, 3, none⟩ = some (.int .i64 0) := (blk_cell BKv1.out 3).trans rfl; have hczv5 : wv4.cell? ⟨gbv1, 4, none⟩ = some (.slice none 0 0) := (blk_cell BKv1.out 4).trans rfl; have hfzv1 := blk_frozen BKv1.out 0; have hfzv2 := blk_frozen BKv1.out 1; have hfzv3 := blk_frozen BKv1.out 2; have hfzv4 := blk_frozen BKv1.out 3; have hfzv5 := blk_frozen BKv1.out 4; obtain ⟨Aov1, cov1, eov1⟩ := Kd.R_slice HOv1.out; subst eov1))
 (try simp only [Act.put, List.setIfInBounds_toArray, List.set_cons_zero, List.set_cons_succ])
 go_cut [40] (fun vv2 wc => ∃ (kq : Nat) (xv1 : Bool), vv2 = .bool xv1 ∧ Aside0 (index_Sound.j0 kq l0 tv2 xv1 tv4 tv5 tv6 tv7 tv8 = some r) ∧ Aside0 (kq ≤ k) ∧ Aside0 (Kd.R (Kd.int .i64) 3 wc w.heap.size (fun _ => True) (.slice Aov1 tv8.length cov1) tv8) ∧ Aside0 (wc.heap[gbv1]? = some (.cells #[.int .i64 tv4, .int .i64 tv5, .int .i64 tv6, .int .i64 tv7, (.slice Aov1 tv8.length cov1)] 24 (0, 0))) ∧ Aside0 (Below w.heap.size w wc))
 case first =>
  have H := HCv1.out
  clear HCv1
  by_cases cv1 : tv9 = 0
  rotate_left
  · rw [if_neg cv1] at H
    have c13b0 : (tv9 == 0) = false := beq_eq_false_iff_ne.mpr cv1
    have c13b1 : (tv9 != 0) = true := bne_iff_ne.mpr cv1
    (first | rw [c13b0] | (simp only [i64_w, i32_w]; rw [c13b0]) | skip)
    have H' := Aside0.mk H
    clear H
    go_wp2
    go_meet
    case rel => exact ⟨_, (true), (by first | rfl | (simp; done) | (simp [*]; done)), H', ⟨by first | omega | exact Nat.le_refl _⟩, ⟨by (with_reducible repeat (first | apply Kd.R_alloc | apply Kd.R_drewN | apply Kd.R_drew)); exact Kd.R_mono (Kd.R_far (p := ⟨gbv1, 4, none⟩) (Kd.R_far (p := ⟨gbv1, 3, none⟩) (Kd.R_far (p := ⟨gbv1, 2, none⟩) (Kd.R_far (p := ⟨gbv1, 1, none⟩) (Kd.R_far (p := ⟨gbv1, 0, none⟩) (Kd.R_types HOv1.out BKv1.out (by decide)) (fun _ hk => hk.2) (.int .i64 tv4)) (fun _ hk => hk.2) (.int .i64 tv5)) (fun _ hk => hk.2) (.int .i64 tv6)) (fun _ hk => hk.2) (.int .i64 tv7)) (fun _ hk => hk.2) (.slice Aov1 tv8.length cov1)) (fun _ hk => trivial)⟩, ⟨by (with_reducible repeat (first | refine blk_drewN ?_ _ | refine blk_drew ?_ | refine blk_alloc ?_ _)); refine blk_put (cs := #[.int .i64 tv4, .int .i64 tv5, .int .i64 tv6, .int .i64 tv7, .slice none 0 0]) ?_ 4 _ rfl; (with_reducible repeat (first | refine blk_drewN ?_ _ | refine blk_drew ?_ | refine blk_alloc ?_ _)); refine blk_put (cs := #[.int .i64 tv4, .int .i64 tv5, .int .i64 tv6, .int .i64 0, .slice none 0 0]) ?_ 3 _ rfl; (with_reducible repeat (first | refine blk_drewN ?_ _ | refine blk_drew ?_ | refine blk_alloc ?_ _)); refine blk_put (cs := #[.int .i64 tv4, .int .i64 tv5, .int .i64 0, .int .i64 0, .slice none 0 0]) ?_ 2 _ rfl; (with_reducible repeat (first | refine blk_drewN ?_ _ | refine blk_drew ?_ | refine blk_alloc ?_ _)); refine blk_put (cs := #[.int .i64 tv4, .int .i64 0, .int .i64 0, .int .i64 0, .slice none 0 0]) ?_ 1 _ rfl; (with_reducible repeat (first | refine blk_drewN ?_ _ | refine blk_drew ?_ | refine blk_alloc ?_ _)); refine blk_put (cs := #[.int .i64 0, .int .i64 0, .int .i64 0, .int .i64 0, .slice none 0 0]) ?_ 0 _ rfl; (with_reducible repeat (first | refine blk_drewN ?_ _ | refine blk_drew ?_ | refine blk_alloc ?_ _)); exact BKv1.out⟩, ⟨by repeat (first | (with_reducible first | exact HB.out | apply below_alloc | apply pw_below_drewN | apply below_drew1 | refine below_set ?_ GEv1.out) | exact HB.out)⟩⟩
  rw [if_pos cv1] at H
  have c13b0 : (tv9 == 0) = true := beq_iff_eq.mpr cv1
  have c13b1 : (tv9 != 0) = false := bne_eq_false_iff_eq.mpr cv1
  clear cv1
  (first | rw [c13b0] | (simp only [i64_w, i32_w]; rw [c13b0]) | skip)
  have H' := Aside0.mk H
  clear H
  have hczv6 : wv4.cell? ⟨gbv1, 0, none⟩ = some (.int .i64 0) := (blk_cell BKv1.out 0).trans rfl
  have hczv7 : wv4.cell? ⟨gbv1, 1, none⟩ = some (.int .i64 0) := (blk_cell BKv1.out 1).trans rfl
  have hczv8 : wv4.cell? ⟨gbv1, 2, none⟩ = some (.int .i64 0) := (blk_cell BKv1.out 2).trans rfl
  have hczv9 : wv4.cell? ⟨gbv1, 3, none⟩ = some (.int .i64 0) := (blk_cell BKv1.out 3).trans rfl
  have hczv10 : wv4.cell? ⟨gbv1, 4, none⟩ = some (.slice none 0 0) := (blk_cell BKv1.out 4).trans rfl
  have hfzv6 := blk_frozen BKv1.out 0
  have hfzv7 := blk_frozen BKv1.out 1
  have hfzv8 := blk_frozen BKv1.out 2
  have hfzv9 := blk_frozen BKv1.out 3
  have hfzv10 := blk_frozen BKv1.out 4
  go_wp2
  go_meet
  case rel => exact ⟨_, ((tv4 == 0)), (by first | rfl | (simp; done) | (simp [*]; done)), H', ⟨by first | omega | exact Nat.le_refl _⟩, ⟨by (with_reducible repeat (first | apply Kd.R_alloc | apply Kd.R_drewN | apply Kd.R_drew)); exact Kd.R_mono (Kd.R_far (p := ⟨gbv1, 4, none⟩) (Kd.R_far (p := ⟨gbv1, 3, none⟩) (Kd.R_far (p := ⟨gbv1, 2, none⟩) (Kd.R_far (p := ⟨gbv1, 1, none⟩) (Kd.R_far (p := ⟨gbv1, 0, none⟩) (Kd.R_types HOv1.out BKv1.out (by decide)) (fun _ hk => hk.2) (.int .i64 tv4)) (fun _ hk => hk.2) (.int .i64 tv5)) (fun _ hk => hk.2) (.int .i64 tv6)) (fun _ hk => hk.2) (.int .i64 tv7)) (fun _ hk => hk.2) (.slice Aov1 tv8.length cov1)) (fun _ hk => trivial)⟩, ⟨by (with_reducible repeat (first | refine blk_drewN ?_ _ | refine blk_drew ?_ | refine blk_alloc ?_ _)); refine blk_put (cs := #[.int .i64 tv4, .int .i64 tv5, .int .i64 tv6, .int .i64 tv7, .slice none 0 0]) ?_ 4 _ rfl; (with_reducible repeat (first | refine blk_drewN ?_ _ | refine blk_drew ?_ | refine blk_alloc ?_ _)); refine blk_put (cs := #[.int .i64 tv4, .int .i64 tv5, .int .i64 tv6, .int .i64 0, .slice none 0 0]) ?_ 3 _ rfl; (with_reducible repeat (first | refine blk_drewN ?_ _ | refine blk_drew ?_ | refine blk_alloc ?_ _)); refine blk_put (cs := #[.int .i64 tv4, .int .i64 tv5, .int .i64 0, .int .i64 0, .slice none 0 0]) ?_ 2 _ rfl; (with_reducible repeat (first | refine blk_drewN ?_ _ | refine blk_drew ?_ | refine blk_alloc ?_ _)); refine blk_put (cs := #[.int .i64 tv4, .int .i64 0, .int .i64 0, .int .i64 0, .slice none 0 0]) ?_ 1 _ rfl; (with_reducible repeat (first | refine blk_drewN ?_ _ | refine blk_drew ?_ | refine blk_alloc ?_ _)); refine blk_put (cs := #[.int .i64 0, .int .i64 0, .int .i64 0, .int .i64 0, .slice none 0 0]) ?_ 0 _ rfl; (with_reducible repeat (first | refine blk_drewN ?_ _ | refine blk_drew ?_ | refine blk_alloc ?_ _)); exact BKv1.out⟩, ⟨by repeat (first | (with_reducible first | exact HB.out | apply below_alloc | apply pw_below_drewN | apply below_drew1 | refine below_set ?_ GEv1.out) | exact HB.out)⟩⟩
 case rest =>
  clear HCv1
  try clear cv2
  try clear cv3
  try clear pv1
  try clear c3
  try clear c3b0
  try clear c3b1
  try clear cv1
  try clear c13b0
  try clear c13b1
  try clear hczv1
  try clear hczv2
  try clear hczv3
  try clear hczv4
  try clear hczv5
  try clear hczv6
  try clear hczv7
  try clear hczv8
  try clear hczv9
  try clear hczv10
  try clear hfzv1
  try clear hfzv2
  try clear hfzv3
  try clear hfzv4
  try clear hfzv5
  try clear hfzv6
  try clear hfzv7
  try clear hfzv8
  try clear hfzv9
  try clear hfzv10
  obtain ⟨kq, xv1, rfl, HA, HJv1, HO_172004, BKv1, HB⟩ := hcut
  cases kq with
  | zero => exact absurd HA.out (by simp [index_Sound.j0])
  | succ kjv1 =>
   have H := HA.out
   clear HA
   simp only [index_Sound.j0] at H
   by_cases cv4 : xv1 = true
   · subst cv4
     have Hv1 : (some (tv2 == 1)) = some r := by rw [if_pos rfl] at H; exact H
     clear H
     have H := Hv1
     clear Hv1
     obtain rfl := Option.some.inj H
     go_wp2
     go_ret
     exact ⟨qe_, by repeat (first | (with_reducible first | exact HB.out | apply below_alloc | apply pw_below_drewN | apply below_drew1 | refine below_set ?_ GEv1.out) | exact HB.out)⟩
   replace cv4 := Bool.eq_false_iff.mpr cv4
   subst cv4
   have Hv1 : ((index_level.f kjv1 l0 tv2 tv4).bind fun btv1 => (index_Sound.l0 kjv1 l0 btv1.1 btv1.2 tv4)) = some r := by rw [if_neg (show ¬ (false = true) by decide)] at H; exact H
   clear H
   have H := Hv1
   clear Hv1
   replace H := Option.bind_eq_some_iff.mp H
   obtain ⟨⟨tv10, tv11⟩, Av5, H⟩ := H
   replace H : (index_Sound.l0 kjv1 l0 tv10 tv11 tv4) = some r := H
   have Av6 := Aside0.mk Av5
   clear Av5
   have H' := Aside0.mk H
   clear H
   have hczv11 : wc.cell? ⟨gbv1, 0, none⟩ = some (.int .i64 tv4) := (blk_cell BKv1.out 0).trans rfl
   have hczv12 : wc.cell? ⟨gbv1, 1, none⟩ = some (.int .i64 tv5) := (blk_cell BKv1.out 1).trans rfl
   have hczv13 : wc.cell? ⟨gbv1, 2, none⟩ = some (.int .i64 tv6) := (blk_cell BKv1.out 2).trans rfl
   have hczv14 : wc.cell? ⟨gbv1, 3, none⟩ = some (.int .i64 tv7) := (blk_cell BKv1.out 3).trans rfl
   have hczv15 : wc.cell? ⟨gbv1, 4, none⟩ = some (.slice Aov1 tv8.length cov1) := (blk_cell BKv1.out 4).trans rfl
   have hfzv11 := blk_frozen BKv1.out 0
   have hfzv12 := blk_frozen BKv1.out 1
   have hfzv13 := blk_frozen BKv1.out 2
   have hfzv14 := blk_frozen BKv1.out 3
   have hfzv15 := blk_frozen BKv1.out 4
   go_wp2_with (first | ((with_reducible refine gate_callee (f := 59) rfl ?_); refine goesL_ (some 48) rfl rfl Try.func59 (by kernel_rfl) rfl #[.slice A0 l0.length c0, .int .i64 tv2, .int .i64 tv4] rfl qm_ ?_; (with_reducible refine (index_level.calls kjv1 _ _ l0 tv2 tv4 tv10 tv11 _ ?side1 ?side2 Av6.out).mono ?_); (case side1 => repeat (first | exact (Kd.C_below HR0.out HB.out) | (with_reducible refine Kd.C_alloc ?_ _) | (with_reducible refine Kd.C_drewN ?_ _) | (with_reducible refine Kd.C_drew ?_))); (case side2 => exact HC0.out); rintro e wv5 ⟨vvv1, rfl, hov1, hb⟩; refine ⟨_, rfl, ?_⟩; have n0_ := Aside0.mk (Kd.R_elder' (qr_ HO_172004.out) (Kd.R_base hov1) hb); have n1_ := Aside0.mk (Kd.R_lower (Kd.R_new' hov1 (Kd.R_lt (qr_ HO_172004.out))) (below_size (qg1_ GEv1.out))); have n2_ := Aside0.mk (blk_below (g := gbv1) (o := .cells #[.int .i64 tv4, .int .i64 tv5, .int .i64 tv6, .int .i64 tv7, .slice Aov1 tv8.length cov1] 24 (0, 0)) (qb_ BKv1.out) hb); have n3_ := Aside0.mk (below_step (qg1_ GEv1.out) hb); clear HO_172004; clear BKv1; clear HB; have HO_172004 := n0_; have HOv2 := n1_; have BKv1 := n2_; have HB := n3_; clear n0_ n1_ n2_ n3_; (try clear hb); (try clear hbv1); (try clear hk); (try clear hi); (try clear hov1); have hczv16 : wv5.cell? ⟨gbv1, 0, none⟩ = some (.int .i64 tv4) := (blk_cell BKv1.out 0).trans rfl; have hczv17 : wv5.cell? ⟨gbv1, 1, none⟩ = some (.int .i64 tv5) := (blk_cell BKv1.out 1).trans rfl; have hczv18 : wv5.cell? ⟨gbv1, 2, none⟩ = some (.int .i64 tv6) := (blk_cell BKv1.out 2).trans rfl; have hczv19 : wv5.cell? ⟨gbv1, 3, none⟩ = some (.int .i64 tv7) := (blk_cell BKv1.out 3).trans rfl; have hczv20 : wv5.cell? ⟨gbv1, 4, none⟩ = some (.slice Aov1 tv8.length cov1) := (blk_cell BKv1.out 4).trans rfl; have hfzv16 := blk_frozen BKv1.out 0; have hfzv17 := blk_frozen BKv1.out 1; have hfzv18 := blk_frozen BKv1.out 2; have hfzv19 := blk_frozen BKv1.out 3; have hfzv20 := blk_frozen BKv1.out 4))
   go_loopg [8, 9, 10] kjv1 (fun kq vvv2 vvv3 vvv4 w' => ∃ (xv2 : List Int) (xv3 : Bool) (xv4 : Int), vvv3 = .bool xv3 ∧ vvv4 = .int .i64 xv4 ∧ Aside0 (index_Sound.l0 kq l0 xv2 xv3 xv4 = some r) ∧ Aside0 (kq ≤ kjv1) ∧ Aside0 (Kd.R (Kd.int .i64) 3 w' w.heap.size (fun k_ => some k_ ≠ ((.slice Aov1 tv8.length cov1) : Value).ownBlock) vvv2 xv2) ∧ Aside0 (Kd.R (Kd.int .i64) 3 w' w.heap.size (fun k_ => some k_ ≠ (vvv2 : Value).ownBlock) (.slice Aov1 tv8.length cov1) tv8) ∧ Aside0 (w'.heap[gbv1]? = some (.cells #[.int .i64 tv4, .int .i64 tv5, .int .i64 tv6, .int .i64 tv7, (.slice Aov1 tv8.length cov1)] 24 (0, 0))) ∧ Aside0 (Below w.heap.size w w'))
   case atStart => exact ⟨(tv10), (tv11), (tv4), (by first | rfl | (simp; done) | (simp [*]; done)), (by first | rfl | (simp; done) | (simp [*]; done)), H', ⟨Nat.le_refl _⟩, ⟨by (with_reducible repeat (first | apply Kd.R_alloc | apply Kd.R_drewN | apply Kd.R_drew)); exact Kd.R_mono HOv2.out (fun _ hk => hk.2)⟩, ⟨by (with_reducible repeat (first | apply Kd.R_alloc | apply Kd.R_drewN | apply Kd.R_drew)); exact Kd.R_mono HO_172004.out (fun _ hk => hk.2)⟩, ⟨by (with_reducible repeat (first | refine blk_drewN ?_ _ | refine blk_drew ?_ | refine blk_alloc ?_ _)); exact BKv1.out⟩, ⟨by repeat (first | (with_reducible first | exact HB.out | apply below_alloc | apply pw_below_drewN | apply below_drew1 | refine below_set ?_ GEv1.out) | exact HB.out)⟩⟩
   case round =>
    clear H'
    try clear cv2
    try clear cv3
    try clear pv1
    try clear c3
    try clear c3b0
    try clear c3b1
    try clear cv5
    try clear cv1
    try clear c13b0
    try clear c13b1
    try clear cv4
    try clear hczv1
    try clear hczv2
    try clear hczv3
    try clear hczv4
    try clear hczv5
    try clear hczv6
    try clear hczv7
    try clear hczv8
    try clear hczv9
    try clear hczv10
    try clear hczv11
    try clear hczv12
    try clear hczv13
    try clear hczv14
    try clear hczv15
    try clear hczv16
    try clear hczv17
    try clear hczv18
    try clear hczv19
    try clear hczv20
    try clear hfzv1
    try clear hfzv2
    try clear hfzv3
    try clear hfzv4
    try clear hfzv5
    try clear hfzv6
    try clear hfzv7
    try clear hfzv8
    try clear hfzv9
    try clear hfzv10
    try clear hfzv11
    try clear hfzv12
    try clear hfzv13
    try clear hfzv14
    try clear hfzv15
    try clear hfzv16
    try clear hfzv17
    try clear hfzv18
    try clear hfzv19
    try clear hfzv20
    try clear pv1
    obtain ⟨xv2, xv3, xv4, rfl, rfl, HA, HKv1, HO_8, HO_172004, BKv1, HB⟩ := hrel
    cases gk with
    | zero => exact absurd HA.out (by simp [index_Sound.l0])
    | succ kv1 =>
     have H := HA.out
     clear HA
     simp only [index_Sound.l0] at H
     have HCv2 := Aside0.mk H
     clear H
     go_upto_region 9 with (fail)
     go_cut [57] (fun vvv5 wc => ∃ (kq : Nat) (xv5 : Bool), vvv5 = .bool xv5 ∧ Aside0 (index_Sound.j2 kq l0 xv2 xv3 xv4 xv5 = some r) ∧ Aside0 (kq ≤ kv1) ∧ Aside0 (Kd.R (Kd.int .i64) 3 wc w.heap.size (fun k_ => some k_ ≠ ((.slice Aov1 tv8.length cov1) : Value).ownBlock) u8 xv2) ∧ Aside0 (Kd.R (Kd.int .i64) 3 wc w.heap.size (fun k_ => some k_ ≠ (u8 : Value).ownBlock) (.slice Aov1 tv8.length cov1) tv8) ∧ Aside0 (wc.heap[gbv1]? = some (.cells #[.int .i64 tv4, .int .i64 tv5, .int .i64 tv6, .int .i64 tv7, (.slice Aov1 tv8.length cov1)] 24 (0, 0))) ∧ Aside0 (Below w.heap.size w wc))
     case first =>
      have H := HCv2.out
      clear HCv2
      by_cases cv6 : xv3 = true
      · subst cv6
        have Hv1 : (index_Sound.j2 kv1 l0 xv2 true xv4 (decide (xv4 > 0))) = some r := by rw [if_pos rfl] at H; exact H
        clear H
        have H := Hv1
        clear Hv1
        have H' := Aside0.mk H
        clear H
        go_wp2
        go_meet
        case rel => exact ⟨_, (decide (xv4 > 0)), (by first | rfl | (simp; done) | (simp [*]; done)), H', ⟨by have := HJv1.out; have := HKv1.out; first | omega | exact Nat.le_refl _⟩, ⟨by (with_reducible repeat (first | apply Kd.R_alloc | apply Kd.R_drewN | apply Kd.R_drew)); exact HO_8.out⟩, ⟨by (with_reducible repeat (first | apply Kd.R_alloc | apply Kd.R_drewN | apply Kd.R_drew)); exact HO_172004.out⟩, ⟨by (with_reducible repeat (first | refine blk_drewN ?_ _ | refine blk_drew ?_ | refine blk_alloc ?_ _)); exact BKv1.out⟩, ⟨by repeat (first | (with_reducible first | exact HB.out | apply below_alloc | apply pw_below_drewN | apply below_drew1 | refine below_set ?_ GEv1.out) | exact HB.out)⟩⟩
      replace cv6 := Bool.eq_false_iff.mpr cv6
      subst cv6
      have Hv1 : (index_Sound.j2 kv1 l0 xv2 false xv4 false) = some r := by rw [if_neg (show ¬ (false = true) by decide)] at H; exact H
      clear H
      have H := Hv1
      clear Hv1
      have H' := Aside0.mk H
      clear H
      go_wp2
      go_meet
      case rel => exact ⟨_, (false), (by first | rfl | (simp; done) | (simp [*]; done)), H', ⟨by have := HJv1.out; have := HKv1.out; first | omega | exact Nat.le_refl _⟩, ⟨by (with_reducible repeat (first | apply Kd.R_alloc | apply Kd.R_drewN | apply Kd.R_drew)); exact HO_8.out⟩, ⟨by (with_reducible repeat (first | apply Kd.R_alloc | apply Kd.R_drewN | apply Kd.R_drew)); exact HO_172004.out⟩, ⟨by (with_reducible repeat (first | refine blk_drewN ?_ _ | refine blk_drew ?_ | refine blk_alloc ?_ _)); exact BKv1.out⟩, ⟨by repeat (first | (with_reducible first | exact HB.out | apply below_alloc | apply pw_below_drewN | apply below_drew1 | refine below_set ?_ GEv1.out) | exact HB.out)⟩⟩
     case rest =>
      clear HCv2
      try clear cv2
      try clear cv3
      try clear pv1
      try clear c3
      try clear c3b0
      try clear c3b1
      try clear cv5
      try clear cv1
      try clear c13b0
      try clear c13b1
      try clear cv4
      try clear cv6
      try clear hczv1
      try clear hczv2
      try clear hczv3
      try clear hczv4
      try clear hczv5
      try clear hczv6
      try clear hczv7
      try clear hczv8
      try clear hczv9
      try clear hczv10
      try clear hczv11
      try clear hczv12
      try clear hczv13
      try clear hczv14
      try clear hczv15
      try clear hczv16
      try clear hczv17
      try clear hczv18
      try clear hczv19
      try clear hczv20
      try clear hfzv1
      try clear hfzv2
      try clear hfzv3
      try clear hfzv4
      try clear hfzv5
      try clear hfzv6
      try clear hfzv7
      try clear hfzv8
      try clear hfzv9
      try clear hfzv10
      try clear hfzv11
      try clear hfzv12
      try clear hfzv13
      try clear hfzv14
      try clear hfzv15
      try clear hfzv16
      try clear hfzv17
      try clear hfzv18
      try clear hfzv19
      try clear hfzv20
      try clear pv1
      obtain ⟨kq, xv5, rfl, HA, HJv2, HO_8, HO_172004, BKv1, HB⟩ := hcut
      cases kq with
      | zero => exact absurd HA.out (by simp [index_Sound.j2])
      | succ kjv2 =>
       have H := HA.out
       clear HA
       simp only [index_Sound.j2] at H
       by_cases cv7 : xv5 = true
       subst cv7
       have Hv1 : ((index_below.f kjv2 l0 xv2 xv4).bind fun btv2 => (if btv2.2 = true then (index_Sound.l1 kjv2 l0 btv2.2 xv4 btv2.1 (⟨#[]⟩ : ByteArray) xv2 (xv2.length : Int) 0) else (some btv2.2))) = some r := by rw [if_pos rfl] at H; exact H
       clear H
       have H := Hv1
       clear Hv1
       replace H := Option.bind_eq_some_iff.mp H
       obtain ⟨⟨tv12, tv13⟩, Av7, H⟩ := H
       try dsimp only at H
       have Av8 := Aside0.mk Av7
       clear Av7
       by_cases cv8 : tv13 = true
       · subst cv8
         have Hv1 : (index_Sound.l1 kjv2 l0 true xv4 tv12 (⟨#[]⟩ : ByteArray) xv2 (xv2.length : Int) 0) = some r := by rw [if_pos rfl] at H; exact H
         clear H
         have H := Hv1
         clear Hv1
         have H' := Aside0.mk H
         clear H
         obtain ⟨Aov2, cov2, eov2⟩ := Kd.R_slice HO_8.out
         subst eov2
         go_wp2_with (first | ((with_reducible refine gate_callee (f := 60) rfl ?_); refine goesL_ (some 64) rfl rfl Try.func60 (by kernel_rfl) rfl #[.slice A0 l0.length c0, .slice Aov2 xv2.length cov2, .int .i64 xv4] rfl qm_ ?_; (with_reducible refine (index_below.calls kjv2 _ _ l0 _ _ xv2 xv4 tv12 true _ ?side1 ?side2 ?side3 ?side4 Av8.out).mono ?_); (case side1 => repeat (first | exact (Kd.C_below HR0.out HB.out) | (with_reducible refine Kd.C_alloc ?_ _) | (with_reducible refine Kd.C_drewN ?_ _) | (with_reducible refine Kd.C_drew ?_))); (case side2 => exact HC0.out); (case side3 => repeat (first | exact (Kd.R_reads' HO_8.out).2.2 | (with_reducible refine Kd.C_alloc ?_ _) | (with_reducible refine Kd.C_drewN ?_ _) | (with_reducible refine Kd.C_drew ?_))); (case side4 => exact (Kd.R_reads' HO_8.out).2.1); rintro e wv6 ⟨vvvv1, rfl, hov1, hb⟩; refine ⟨_, rfl, ?_⟩; have n0_ := Aside0.mk (Kd.R_elder' (qr_ HO_8.out) (Kd.R_base hov1) hb); have n1_ := Aside0.mk (Kd.R_elder' (qr_ HO_172004.out) (Kd.R_base hov1) hb); have n2_ := Aside0.mk (Kd.R_lower (Kd.R_new' (Kd.R_new' hov1 (Kd.R_lt (qr_ HO_8.out))) (Kd.R_lt (qr_ HO_172004.out))) (below_size (qg1_ GEv1.out))); have n3_ := Aside0.mk (blk_below (g := gbv1) (o := .cells #[.int .i64 tv4, .int .i64 tv5, .int .i64 tv6, .int .i64 tv7, .slice Aov1 tv8.length cov1] 24 (0, 0)) (qb_ BKv1.out) hb); have n4_ := Aside0.mk (below_step (qg1_ GEv1.out) hb); clear HO_8; clear HO_172004; clear BKv1; clear HB; have HO_8 := n0_; have HO_172004 := n1_; have HOv3 := n2_; have BKv1 := n3_; have HB := n4_; clear n0_ n1_ n2_ n3_ n4_; (try clear hb); (try clear hbv1); (try clear hk); (try clear hi); (try clear hov1)))
         go_loopg [9, 12, 71] kjv2 (fun kq vvv3 vvvv2 vvvv3 w' => ∃ (xv6 : Bool) (xv7 : ByteArray) (xv8 : Int), vvv3 = .bool xv6 ∧ vvvv2 = .string xv7 ∧ vvvv3 = .int .i64 xv8 ∧ Aside0 (index_Sound.l1 kq l0 xv6 xv4 tv12 xv7 xv2 (xv2.length : Int) xv8 = some r) ∧ Aside0 (kq ≤ kjv2) ∧ Aside0 (Kd.R (Kd.int .i64) 3 w' w.heap.size (fun k_ => some k_ ≠ ((.slice Aov2 xv2.length cov2) : Value).ownBlock ∧ some k_ ≠ ((.slice Aov1 tv8.length cov1) : Value).ownBlock) vvvv1 tv12) ∧ Aside0 (Kd.R (Kd.int .i64) 3 w' w.heap.size (fun k_ => some k_ ≠ (vvvv1 : Value).ownBlock ∧ some k_ ≠ ((.slice Aov1 tv8.length cov1) : Value).ownBlock) (.slice Aov2 xv2.length cov2) xv2) ∧ Aside0 (Kd.R (Kd.int .i64) 3 w' w.heap.size (fun k_ => some k_ ≠ (vvvv1 : Value).ownBlock ∧ some k_ ≠ ((.slice Aov2 xv2.length cov2) : Value).ownBlock) (.slice Aov1 tv8.length cov1) tv8) ∧ Aside0 (w'.heap[gbv1]? = some (.cells #[.int .i64 tv4, .int .i64 tv5, .int .i64 tv6, .int .i64 tv7, (.slice Aov1 tv8.length cov1)] 24 (0, 0))) ∧ Aside0 (Below w.heap.size w w'))
         case atStart => exact ⟨(true), ((⟨#[]⟩ : ByteArray)), (0), (by first | rfl | (simp; done) | (simp [*]; done)), (by first | rfl | (simp; done) | (simp [*]; done)), (by first | rfl | (simp; done) | (simp [*]; done)), H', ⟨Nat.le_refl _⟩, ⟨by (with_reducible repeat (first | apply Kd.R_alloc | apply Kd.R_drewN | apply Kd.R_drew)); exact Kd.R_mono HOv3.out (fun _ hk => ⟨hk.1.2, hk.2⟩)⟩, ⟨by (with_reducible repeat (first | apply Kd.R_alloc | apply Kd.R_drewN | apply Kd.R_drew)); exact Kd.R_mono HO_8.out (fun _ hk => ⟨hk.2, hk.1⟩)⟩, ⟨by (with_reducible repeat (first | apply Kd.R_alloc | apply Kd.R_drewN | apply Kd.R_drew)); exact Kd.R_mono HO_172004.out (fun _ hk => ⟨hk.2, hk.1⟩)⟩, ⟨by (with_reducible repeat (first | refine blk_drewN ?_ _ | refine blk_drew ?_ | refine blk_alloc ?_ _)); exact BKv1.out⟩, ⟨by repeat (first | (with_reducible first | exact HB.out | apply below_alloc | apply pw_below_drewN | apply below_drew1 | refine below_set ?_ GEv1.out) | exact HB.out)⟩⟩
         case round =>
          clear H'
          try clear cv2
          try clear cv3
          try clear pv1
          try clear c3
          try clear c3b0
          try clear c3b1
          try clear cv5
          try clear cv9
          try clear cv1
          try clear c13b0
          try clear c13b1
          try clear cv4
          try clear cv6
          try clear cv7
          try clear cv10
          try clear cv8
          try clear hczv1
          try clear hczv2
          try clear hczv3
          try clear hczv4
          try clear hczv5
          try clear hczv6
          try clear hczv7
          try clear hczv8
          try clear hczv9
          try clear hczv10
          try clear hczv11
          try clear hczv12
          try clear hczv13
          try clear hczv14
          try clear hczv15
          try clear hczv16
          try clear hczv17
          try clear hczv18
          try clear hczv19
          try clear hczv20
          try clear hfzv1
          try clear hfzv2
          try clear hfzv3
          try clear hfzv4
          try clear hfzv5
          try clear hfzv6
          try clear hfzv7
          try clear hfzv8
          try clear hfzv9
          try clear hfzv10
          try clear hfzv11
          try clear hfzv12
          try clear hfzv13
          try clear hfzv14
          try clear hfzv15
          try clear hfzv16
          try clear hfzv17
          try clear hfzv18
          try clear hfzv19
          try clear hfzv20
          try clear pv1
          obtain ⟨xv6, xv7, xv8, rfl, rfl, rfl, HA, HKv2, HO_11, HO_69, HO_172004, BKv1, HB⟩ := hrel
          cases gk with
          | zero => exact absurd HA.out (by simp [index_Sound.l1])
          | succ kv2 =>
           have H := HA.out
           clear HA
           simp only [index_Sound.l1] at H
           by_cases cv11 : xv8 < (xv2.length : Int)
           rw [if_pos cv11] at H
           have c27b0 : decide (xv8 < (xv2.length : Int)) = true := decide_eq_true cv11
           clear cv11
           by_cases cv12 : 0 ≤ xv8
           rw [if_pos cv12] at H
           have c28b0 : decide (0 ≤ xv8) = true := decide_eq_true cv12
           clear cv12
           by_cases cv13 : xv8 < (xv2.length : Int)
           rw [if_pos cv13] at H
           have c29b0 : decide (xv8 < (xv2.length : Int)) = true := decide_eq_true cv13
           clear cv13
           replace H := Option.bind_eq_some_iff.mp H
           obtain ⟨⟨tv14, tv15, tv16, tv17, tv18, tv19⟩, Av9, H⟩ := H
           try dsimp only at H
           have Av10 := Aside0.mk Av9
           clear Av9
           replace H := Option.bind_eq_some_iff.mp H
           obtain ⟨⟨tv20, tv21⟩, Av11, H⟩ := H
           try dsimp only at H
           have Av12 := Aside0.mk Av11
           clear Av11
           by_cases cv14 : xv6 = true
           subst cv14
           have Hv1 : (if tv21 = 0 then (if xv8 = 0 then (if tv17 = 0 then ((index_leads.f kv2 l0 tv14 tv15 tv16 tv17 tv18 tv20 tv12).bind fun tv22 => (index_Sound.l1 kv2 l0 tv22 xv4 tv12 tv20 xv2 (xv2.length : Int) (wrap64 (xv8 + 1)))) else (if xv8 > 0 then (if (Op.bytesLess xv7.toList tv20.toList) = true then ((index_leads.f kv2 l0 tv14 tv15 tv16 tv17 tv18 tv20 tv12).bind fun tv23 => (index_Sound.l1 kv2 l0 tv23 xv4 tv12 tv20 xv2 (xv2.length : Int) (wrap64 (xv8 + 1)))) else (index_Sound.l1 kv2 l0 false xv4 tv12 tv20 xv2 (xv2.length : Int) (wrap64 (xv8 + 1)))) else (index_Sound.l1 kv2 l0 false xv4 tv12 tv20 xv2 (xv2.length : Int) (wrap64 (xv8 + 1))))) else (if xv8 > 0 then (if (Op.bytesLess xv7.toList tv20.toList) = true then ((index_leads.f kv2 l0 tv14 tv15 tv16 tv17 tv18 tv20 tv12).bind fun tv24 => (index_Sound.l1 kv2 l0 tv24 xv4 tv12 tv20 xv2 (xv2.length : Int) (wrap64 (xv8 + 1)))) else (index_Sound.l1 kv2 l0 false xv4 tv12 tv20 xv2 (xv2.length : Int) (wrap64 (xv8 + 1)))) else (index_Sound.l1 kv2 l0 false xv4 tv12 tv20 xv2 (xv2.length : Int) (wrap64 (xv8 + 1))))) else (index_Sound.l1 kv2 l0 false xv4 tv12 tv20 xv2 (xv2.length : Int) (wrap64 (xv8 + 1)))) = some r := by rw [if_pos rfl] at H; exact H
           clear H
           have H := Hv1
           clear Hv1
           by_cases cv15 : tv21 = 0
           rw [if_pos cv15] at H
           have c33b0 : (tv21 == 0) = true := beq_iff_eq.mpr cv15
           have c33b1 : (tv21 != 0) = false := bne_eq_false_iff_eq.mpr cv15
           clear cv15
           by_cases cv16 : xv8 = 0
           rw [if_pos cv16] at H
           have c34b0 : (xv8 == 0) = true := beq_iff_eq.mpr cv16
           have c34b1 : (xv8 != 0) = false := bne_eq_false_iff_eq.mpr cv16
           clear cv16
           by_cases cv17 : tv17 = 0
           · rw [if_pos cv17] at H
             have c35b0 : (tv17 == 0) = true := beq_iff_eq.mpr cv17
             have c35b1 : (tv17 != 0) = false := bne_eq_false_iff_eq.mpr cv17
             clear cv17
             replace H := Option.bind_eq_some_iff.mp H
             obtain ⟨tv22, Av13, H⟩ := H
             try dsimp only at H
             have Av14 := Aside0.mk Av13
             clear Av13
             have H' := Aside0.mk H
             clear H
             have pv2 : 0 ≤ (xv8 : Int) := of_decide_eq_true (by first | (with_reducible assumption) | assumption)
             have qv1 : xv8 < (xv2.length : Int) := of_decide_eq_true (by first | (with_reducible assumption) | assumption)
             obtain ⟨adv1, ev1, hxv1⟩ := Kd.at_int (Kd.R_reads' HO_69.out).2.2 xv8 pv2 qv1
             cases ev1
             replace pv2 := eq_true pv2
             replace qv1 := eq_true qv1
             go_wp2_with (first | ((with_reducible refine gate_callee (f := 21) rfl ?_); refine goesL_ (some 79) rfl rfl Try.func21 (by kernel_rfl) rfl #[.slice A0 l0.length c0, .int .i64 (rd xv2 xv8)] rfl qm_ ?_; (with_reducible refine (node_Read.calls _ _ l0 (rd xv2 xv8) tv14 tv15 tv16 tv17 tv18 tv19 _ ?side1 ?side2 Av10.out).mono ?_); (case side1 => repeat (first | exact (Kd.C_below HR0.out HB.out) | (with_reducible refine Kd.C_alloc ?_ _) | (with_reducible refine Kd.C_drewN ?_ _) | (with_reducible refine Kd.C_drew ?_))); (case side2 => exact HC0.out); rintro e wv7 ⟨vvvvv1, rfl, hov1, hb⟩; refine ⟨_, rfl, ?_⟩; have n0_ := Aside0.mk (Kd.R_elder' (qr_ HO_11.out) (Kd.R_base hov1) hb); have n1_ := Aside0.mk (Kd.R_elder' (qr_ HO_69.out) (Kd.R_base hov1) hb); have n2_ := Aside0.mk (Kd.R_elder' (qr_ HO_172004.out) (Kd.R_base hov1) hb); have n3_ := Aside0.mk (Kd.R_lower (Kd.R_new' (Kd.R_new' (Kd.R_new' hov1 (Kd.R_lt (qr_ HO_11.out))) (Kd.R_lt (qr_ HO_69.out))) (Kd.R_lt (qr_ HO_172004.out))) (below_size (qg1_ GEv1.out))); have n4_ := Aside0.mk (blk_below (g := gbv1) (o := .cells #[.int .i64 tv4, .int .i64 tv5, .int .i64 tv6, .int .i64 tv7, .slice Aov1 tv8.length cov1] 24 (0, 0)) (qb_ BKv1.out) hb); have n5_ := Aside0.mk (below_step (qg1_ GEv1.out) hb); clear HO_11; clear HO_69; clear HO_172004; clear BKv1; clear HB; have HO_11 := n0_; have HO_69 := n1_; have HO_172004 := n2_; have HOv4 := n3_; have BKv1 := n4_; have HB := n5_; clear n0_ n1_ n2_ n3_ n4_ n5_; (try clear hb); (try clear hbv1); (try clear hk); (try clear hi); (try clear hov1)) | ((with_reducible refine gate_dst (N := 15) rfl ?_); refine box_event ?hg (N := 15) ?hd (cs := #[.int .i64 0, .int .i64 0, .int .i64 0, .int .i64 0, .slice none 0 0]) (t := 24) ?hr ?_; (case hd => rfl); (case hg => rfl); (case hr => first | (go_simp; done) | (go_simp; rfl)); intro gbv2 hg wv8 hbox hb; have n0_ := Aside0.mk (Kd.R_below (qr_ HO_11.out) hb); have n1_ := Aside0.mk (Kd.R_below (qr_ HO_69.out) hb); have n2_ := Aside0.mk (Kd.R_below (qr_ HO_172004.out) hb); have n3_ := Aside0.mk (Kd.R_below (qr_ HOv4.out) hb); have n4_ := Aside0.mk (blk_below (g := gbv1) (o := .cells #[.int .i64 tv4, .int .i64 tv5, .int .i64 tv6, .int .i64 tv7, .slice Aov1 tv8.length cov1] 24 (0, 0)) (qb_ BKv1.out) hb); have n5_ := Aside0.mk (below_step (qg1_ GEv1.out) hb); have n6_ := Aside0.mk (hbox); have n7_ := Aside0.mk ((by rw [hg]; exact (below_size (qg1_ GEv1.out)) : w.heap.size ≤ gbv2)); have n8_ := Aside0.mk ((by rw [hg]; exact (below_size (qg1_ GEv1.out)) : w.heap.size ≤ gbv2)); have n9_ := Aside0.mk ((by rw [hg]; exact Nat.ne_of_lt (blk_lt (g := gbv1) (o := .cells #[.int .i64 tv4, .int .i64 tv5, .int .i64 tv6, .int .i64 tv7, .slice Aov1 tv8.length cov1] 24 (0, 0)) (qb_ BKv1.out)) : gbv1 ≠ gbv2)); have n10_ := Aside0.mk ((by rw [hg]; exact Nat.ne_of_gt (blk_lt (g := gbv1) (o := .cells #[.int .i64 tv4, .int .i64 tv5, .int .i64 tv6, .int .i64 tv7, .slice Aov1 tv8.length cov1] 24 (0, 0)) (qb_ BKv1.out)) : gbv2 ≠ gbv1)); clear HO_11; clear HO_69; clear HO_172004; clear HOv4; clear BKv1; clear HB; have HO_11 := n0_; have HO_69 := n1_; have HO_172004 := n2_; have HOv4 := n3_; have BKv1 := n4_; have HB := n5_; have BKv2 := n6_; have GWv2 := n7_; have GEv2 := n8_; have NBv1 := n9_; have NBv2 := n10_; clear n0_ n1_ n2_ n3_ n4_ n5_ n6_ n7_ n8_ n9_ n10_; clear hb hbox hg; have hnbv1 := NBv2.out; have hncv1 := NBv1.out; have hczv21 : wv8.cell? ⟨gbv2, 0, none⟩ = some (.int .i64 0) := (blk_cell BKv2.out 0).trans rfl; have hczv22 : wv8.cell? ⟨gbv2, 1, none⟩ = some (.int .i64 0) := (blk_cell BKv2.out 1).trans rfl; have hczv23 : wv8.cell? ⟨gbv2, 2, none⟩ = some (.int .i64 0) := (blk_cell BKv2.out 2).trans rfl; have hczv24 : wv8.cell? ⟨gbv2, 3, none⟩ = some (.int .i64 0) := (blk_cell BKv2.out 3).trans rfl; have hczv25 : wv8.cell? ⟨gbv2, 4, none⟩ = some (.slice none 0 0) := (blk_cell BKv2.out 4).trans rfl; have hfzv21 := blk_frozen BKv2.out 0; have hfzv22 := blk_frozen BKv2.out 1; have hfzv23 := blk_frozen BKv2.out 2; have hfzv24 := blk_frozen BKv2.out 3; have hfzv25 := blk_frozen BKv2.out 4; obtain ⟨Aov3, cov3, eov3⟩ := Kd.R_slice HOv4.out; subst eov3) | ((with_reducible refine gate_callee (f := 22) rfl ?_); refine goesL_ (some 85) rfl rfl Try.func22 (by kernel_rfl) rfl #[.slice A0 l0.length c0, .int .i64 (rd xv2 xv8)] rfl qm_ ?_; (with_reducible refine (arena_Low.calls _ _ l0 (rd xv2 xv8) tv20 tv21 _ ?side1 ?side2 Av12.out).mono ?_); (case side1 => exact Kd.C_below HR0.out (qg2_ GEv1.out GEv2.out)); (case side2 => exact HC0.out); rintro e wv9 ⟨rfl, hb⟩; refine ⟨_, rfl, ?_⟩; have n0_ := Aside0.mk (Kd.R_below (by (with_reducible repeat (first | apply Kd.R_alloc | apply Kd.R_drewN | apply Kd.R_drew)); exact (Kd.R_mono (Kd.R_far (p := ⟨gbv2, 4, none⟩) (Kd.R_far (p := ⟨gbv2, 3, none⟩) (Kd.R_far (p := ⟨gbv2, 2, none⟩) (Kd.R_far (p := ⟨gbv2, 1, none⟩) (Kd.R_far (p := ⟨gbv2, 0, none⟩) (Kd.R_types HO_11.out BKv2.out (by decide)) (fun _ hk => hk.2) (.int .i64 tv14)) (fun _ hk => hk.2) (.int .i64 tv15)) (fun _ hk => hk.2) (.int .i64 tv16)) (fun _ hk => hk.2) (.int .i64 tv17)) (fun _ hk => hk.2) (.slice Aov3 tv18.length cov3)) (fun _ h_ => h_.1))) hb); have n1_ := Aside0.mk (Kd.R_below (by (with_reducible repeat (first | apply Kd.R_alloc | apply Kd.R_drewN | apply Kd.R_drew)); exact (Kd.R_mono (Kd.R_far (p := ⟨gbv2, 4, none⟩) (Kd.R_far (p := ⟨gbv2, 3, none⟩) (Kd.R_far (p := ⟨gbv2, 2, none⟩) (Kd.R_far (p := ⟨gbv2, 1, none⟩) (Kd.R_far (p := ⟨gbv2, 0, none⟩) (Kd.R_types HO_69.out BKv2.out (by decide)) (fun _ hk => hk.2) (.int .i64 tv14)) (fun _ hk => hk.2) (.int .i64 tv15)) (fun _ hk => hk.2) (.int .i64 tv16)) (fun _ hk => hk.2) (.int .i64 tv17)) (fun _ hk => hk.2) (.slice Aov3 tv18.length cov3)) (fun _ h_ => h_.1))) hb); have n2_ := Aside0.mk (Kd.R_below (by (with_reducible repeat (first | apply Kd.R_alloc | apply Kd.R_drewN | apply Kd.R_drew)); exact (Kd.R_mono (Kd.R_far (p := ⟨gbv2, 4, none⟩) (Kd.R_far (p := ⟨gbv2, 3, none⟩) (Kd.R_far (p := ⟨gbv2, 2, none⟩) (Kd.R_far (p := ⟨gbv2, 1, none⟩) (Kd.R_far (p := ⟨gbv2, 0, none⟩) (Kd.R_types HO_172004.out BKv2.out (by decide)) (fun _ hk => hk.2) (.int .i64 tv14)) (fun _ hk => hk.2) (.int .i64 tv15)) (fun _ hk => hk.2) (.int .i64 tv16)) (fun _ hk => hk.2) (.int .i64 tv17)) (fun _ hk => hk.2) (.slice Aov3 tv18.length cov3)) (fun _ h_ => h_.1))) hb); have n3_ := Aside0.mk (Kd.R_below (by (with_reducible repeat (first | apply Kd.R_alloc | apply Kd.R_drewN | apply Kd.R_drew)); exact (Kd.R_mono (Kd.R_far (p := ⟨gbv2, 4, none⟩) (Kd.R_far (p := ⟨gbv2, 3, none⟩) (Kd.R_far (p := ⟨gbv2, 2, none⟩) (Kd.R_far (p := ⟨gbv2, 1, none⟩) (Kd.R_far (p := ⟨gbv2, 0, none⟩) (Kd.R_types HOv4.out BKv2.out (by decide)) (fun _ hk => hk.2) (.int .i64 tv14)) (fun _ hk => hk.2) (.int .i64 tv15)) (fun _ hk => hk.2) (.int .i64 tv16)) (fun _ hk => hk.2) (.int .i64 tv17)) (fun _ hk => hk.2) (.slice Aov3 tv18.length cov3)) (fun _ h_ => h_.1))) hb); have n4_ := Aside0.mk (blk_below (g := gbv1) (o := .cells #[.int .i64 tv4, .int .i64 tv5, .int .i64 tv6, .int .i64 tv7, .slice Aov1 tv8.length cov1] 24 (0, 0)) (by (with_reducible repeat (first | refine blk_drewN ?_ _ | refine blk_drew ?_ | refine blk_alloc ?_ _)); refine blk_far ?_ NBv1.out _; (with_reducible repeat (first | refine blk_drewN ?_ _ | refine blk_drew ?_ | refine blk_alloc ?_ _)); refine blk_far ?_ NBv1.out _; (with_reducible repeat (first | refine blk_drewN ?_ _ | refine blk_drew ?_ | refine blk_alloc ?_ _)); refine blk_far ?_ NBv1.out _; (with_reducible repeat (first | refine blk_drewN ?_ _ | refine blk_drew ?_ | refine blk_alloc ?_ _)); refine blk_far ?_ NBv1.out _; (with_reducible repeat (first | refine blk_drewN ?_ _ | refine blk_drew ?_ | refine blk_alloc ?_ _)); refine blk_far ?_ NBv1.out _; (with_reducible repeat (first | refine blk_drewN ?_ _ | refine blk_drew ?_ | refine blk_alloc ?_ _)); exact BKv1.out) hb); have n5_ := Aside0.mk (blk_below (g := gbv2) (o := .cells #[.int .i64 tv14, .int .i64 tv15, .int .i64 tv16, .int .i64 tv17, .slice Aov3 tv18.length cov3] 24 (0, 0)) (by (with_reducible repeat (first | refine blk_drewN ?_ _ | refine blk_drew ?_ | refine blk_alloc ?_ _)); refine blk_put (cs := #[.int .i64 tv14, .int .i64 tv15, .int .i64 tv16, .int .i64 tv17, .slice none 0 0]) ?_ 4 _ rfl; (with_reducible repeat (first | refine blk_drewN ?_ _ | refine blk_drew ?_ | refine blk_alloc ?_ _)); refine blk_put (cs := #[.int .i64 tv14, .int .i64 tv15, .int .i64 tv16, .int .i64 0, .slice none 0 0]) ?_ 3 _ rfl; (with_reducible repeat (first | refine blk_drewN ?_ _ | refine blk_drew ?_ | refine blk_alloc ?_ _)); refine blk_put (cs := #[.int .i64 tv14, .int .i64 tv15, .int .i64 0, .int .i64 0, .slice none 0 0]) ?_ 2 _ rfl; (with_reducible repeat (first | refine blk_drewN ?_ _ | refine blk_drew ?_ | refine blk_alloc ?_ _)); refine blk_put (cs := #[.int .i64 tv14, .int .i64 0, .int .i64 0, .int .i64 0, .slice none 0 0]) ?_ 1 _ rfl; (with_reducible repeat (first | refine blk_drewN ?_ _ | refine blk_drew ?_ | refine blk_alloc ?_ _)); refine blk_put (cs := #[.int .i64 0, .int .i64 0, .int .i64 0, .int .i64 0, .slice none 0 0]) ?_ 0 _ rfl; (with_reducible repeat (first | refine blk_drewN ?_ _ | refine blk_drew ?_ | refine blk_alloc ?_ _)); exact BKv2.out) hb); have n6_ := Aside0.mk (below_step (qg2_ GEv1.out GEv2.out) hb); clear HO_11; clear HO_69; clear HO_172004; clear HOv4; clear BKv1; clear BKv2; clear HB; have HO_11 := n0_; have HO_69 := n1_; have HO_172004 := n2_; have HOv4 := n3_; have BKv1 := n4_; have BKv2 := n5_; have HB := n6_; clear n0_ n1_ n2_ n3_ n4_ n5_ n6_; (try clear hb); (try clear hbv1); (try clear hk); (try clear hi); have hczv26 : wv9.cell? ⟨gbv2, 0, none⟩ = some (.int .i64 tv14) := (blk_cell BKv2.out 0).trans rfl; have hczv27 : wv9.cell? ⟨gbv2, 1, none⟩ = some (.int .i64 tv15) := (blk_cell BKv2.out 1).trans rfl; have hczv28 : wv9.cell? ⟨gbv2, 2, none⟩ = some (.int .i64 tv16) := (blk_cell BKv2.out 2).trans rfl; have hczv29 : wv9.cell? ⟨gbv2, 3, none⟩ = some (.int .i64 tv17) := (blk_cell BKv2.out 3).trans rfl; have hczv30 : wv9.cell? ⟨gbv2, 4, none⟩ = some (.slice Aov3 tv18.length cov3) := (blk_cell BKv2.out 4).trans rfl; have hfzv26 := blk_frozen BKv2.out 0; have hfzv27 := blk_frozen BKv2.out 1; have hfzv28 := blk_frozen BKv2.out 2; have hfzv29 := blk_frozen BKv2.out 3; have hfzv30 := blk_frozen BKv2.out 4; obtain ⟨Aov4, cov4, eov4⟩ := Kd.R_slice HO_11.out; subst eov4) | (go_at_call 61; (with_reducible refine (index_leads.calls kv2 _ _ l0 tv14 tv15 tv16 tv17 _ _ tv18 tv20 _ _ tv12 tv22 _ ?side1 ?side2 ?side3 ?side4 ?side5 ?side6 Av14.out).mono ?_); (case side1 => repeat (first | exact (Kd.C_below HR0.out HB.out) | (with_reducible refine Kd.C_alloc ?_ _) | (with_reducible refine Kd.C_drewN ?_ _) | (with_reducible refine Kd.C_drew ?_))); (case side2 => exact HC0.out); (case side3 => repeat (first | exact (Kd.R_reads' HOv4.out).2.2 | (with_reducible refine Kd.C_alloc ?_ _) | (with_reducible refine Kd.C_drewN ?_ _) | (with_reducible refine Kd.C_drew ?_))); (case side4 => exact (Kd.R_reads' HOv4.out).2.1); (case side5 => repeat (first | exact (Kd.R_reads' HO_11.out).2.2 | (with_reducible refine Kd.C_alloc ?_ _) | (with_reducible refine Kd.C_drewN ?_ _) | (with_reducible refine Kd.C_drew ?_))); (case side6 => exact (Kd.R_reads' HO_11.out).2.1); rintro e wv10 ⟨rfl, hb⟩; have n0_ := Aside0.mk (Kd.R_below (qr_ HO_11.out) hb); have n1_ := Aside0.mk (Kd.R_below (qr_ HO_69.out) hb); have n2_ := Aside0.mk (Kd.R_below (qr_ HO_172004.out) hb); have n3_ := Aside0.mk (Kd.R_below (qr_ HOv4.out) hb); have n4_ := Aside0.mk (blk_below (g := gbv1) (o := .cells #[.int .i64 tv4, .int .i64 tv5, .int .i64 tv6, .int .i64 tv7, .slice Aov1 tv8.length cov1] 24 (0, 0)) (qb_ BKv1.out) hb); have n5_ := Aside0.mk (blk_below (g := gbv2) (o := .cells #[.int .i64 tv14, .int .i64 tv15, .int .i64 tv16, .int .i64 tv17, .slice Aov3 tv18.length cov3] 24 (0, 0)) (qb_ BKv2.out) hb); have n6_ := Aside0.mk (below_step (qg2_ GEv1.out GEv2.out) hb); clear HO_11; clear HO_69; clear HO_172004; clear HOv4; clear BKv1; clear BKv2; clear HB; have HO_11 := n0_; have HO_69 := n1_; have HO_172004 := n2_; have HOv4 := n3_; have BKv1 := n4_; have BKv2 := n5_; have HB := n6_; clear n0_ n1_ n2_ n3_ n4_ n5_ n6_; (try clear hb); (try clear hbv1); (try clear hk); (try clear hi)))
             go_roundg kv2
             case measure => have := HJv1.out; have := HKv1.out; have := HJv2.out; have := HKv2.out; omega
             case rel => exact ⟨(tv22), (tv20), (wrap64 (xv8 + 1)), (by first | rfl | (simp; done) | (simp [*]; done)), (by first | rfl | (simp; done) | (simp [*]; done)), (by first | rfl | (simp; done) | (simp [*]; done)), H', ⟨by have := HJv1.out; have := HKv1.out; have := HJv2.out; have := HKv2.out; omega⟩, ⟨by (with_reducible repeat (first | apply Kd.R_alloc | apply Kd.R_drewN | apply Kd.R_drew)); exact Kd.R_mono HO_11.out (fun _ hk => ⟨hk.1.1, hk.1.2⟩)⟩, ⟨by (with_reducible repeat (first | apply Kd.R_alloc | apply Kd.R_drewN | apply Kd.R_drew)); exact Kd.R_mono HO_69.out (fun _ hk => ⟨hk.1.1, hk.1.2⟩)⟩, ⟨by (with_reducible repeat (first | apply Kd.R_alloc | apply Kd.R_drewN | apply Kd.R_drew)); exact Kd.R_mono HO_172004.out (fun _ hk => ⟨hk.1.1, hk.1.2⟩)⟩, ⟨by (with_reducible repeat (first | refine blk_drewN ?_ _ | refine blk_drew ?_ | refine blk_alloc ?_ _)); exact BKv1.out⟩, ⟨by repeat (first | (with_reducible first | exact HB.out | apply below_alloc | apply pw_below_drewN | apply below_drew1 | refine below_set ?_ GEv1.out | refine below_set ?_ GEv2.out) | exact HB.out)⟩⟩
           rw [if_neg cv17] at H
           have c35b0 : (tv17 == 0) = false := beq_eq_false_iff_ne.mpr cv17
           have c35b1 : (tv17 != 0) = true := bne_iff_ne.mpr cv17
           by_cases cv18 : xv8 > 0
           rw [if_pos cv18] at H
           have c46b0 : decide (0 < xv8) = true := decide_eq_true cv18
           clear cv18
           by_cases cv19 : (Op.bytesLess xv7.toList tv20.toList) = true
           · rw [if_pos cv19] at H
             have c47b0 : (Op.bytesLess xv7.toList tv20.toList) = true := cv19
             clear cv19
             replace H := Option.bind_eq_some_iff.mp H
             obtain ⟨tv23, Av13, H⟩ := H
             try dsimp only at H
             have Av14 := Aside0.mk Av13
             clear Av13
             have H' := Aside0.mk H
             clear H
             have pv2 : 0 ≤ (xv8 : Int) := of_decide_eq_true (by first | (with_reducible assumption) | assumption)
             have qv1 : xv8 < (xv2.length : Int) := of_decide_eq_true (by first | (with_reducible assumption) | assumption)
             obtain ⟨adv1, ev1, hxv1⟩ := Kd.at_int (Kd.R_reads' HO_69.out).2.2 xv8 pv2 qv1
             cases ev1
             replace pv2 := eq_true pv2
             replace qv1 := eq_true qv1
             go_wp2_with (first | ((with_reducible refine gate_callee (f := 21) rfl ?_); refine goesL_ (some 79) rfl rfl Try.func21 (by kernel_rfl) rfl #[.slice A0 l0.length c0, .int .i64 (rd xv2 xv8)] rfl qm_ ?_; (with_reducible refine (node_Read.calls _ _ l0 (rd xv2 xv8) tv14 tv15 tv16 tv17 tv18 tv19 _ ?side1 ?side2 Av10.out).mono ?_); (case side1 => repeat (first | exact (Kd.C_below HR0.out HB.out) | (with_reducible refine Kd.C_alloc ?_ _) | (with_reducible refine Kd.C_drewN ?_ _) | (with_reducible refine Kd.C_drew ?_))); (case side2 => exact HC0.out); rintro e wv7 ⟨vvvvv1, rfl, hov1, hb⟩; refine ⟨_, rfl, ?_⟩; have n0_ := Aside0.mk (Kd.R_elder' (qr_ HO_11.out) (Kd.R_base hov1) hb); have n1_ := Aside0.mk (Kd.R_elder' (qr_ HO_69.out) (Kd.R_base hov1) hb); have n2_ := Aside0.mk (Kd.R_elder' (qr_ HO_172004.out) (Kd.R_base hov1) hb); have n3_ := Aside0.mk (Kd.R_lower (Kd.R_new' (Kd.R_new' (Kd.R_new' hov1 (Kd.R_lt (qr_ HO_11.out))) (Kd.R_lt (qr_ HO_69.out))) (Kd.R_lt (qr_ HO_172004.out))) (below_size (qg1_ GEv1.out))); have n4_ := Aside0.mk (blk_below (g := gbv1) (o := .cells #[.int .i64 tv4, .int .i64 tv5, .int .i64 tv6, .int .i64 tv7, .slice Aov1 tv8.length cov1] 24 (0, 0)) (qb_ BKv1.out) hb); have n5_ := Aside0.mk (below_step (qg1_ GEv1.out) hb); clear HO_11; clear HO_69; clear HO_172004; clear BKv1; clear HB; have HO_11 := n0_; have HO_69 := n1_; have HO_172004 := n2_; have HOv4 := n3_; have BKv1 := n4_; have HB := n5_; clear n0_ n1_ n2_ n3_ n4_ n5_; (try clear hb); (try clear hbv1); (try clear hk); (try clear hi); (try clear hov1)) | ((with_reducible refine gate_dst (N := 15) rfl ?_); refine box_event ?hg (N := 15) ?hd (cs := #[.int .i64 0, .int .i64 0, .int .i64 0, .int .i64 0, .slice none 0 0]) (t := 24) ?hr ?_; (case hd => rfl); (case hg => rfl); (case hr => first | (go_simp; done) | (go_simp; rfl)); intro gbv2 hg wv8 hbox hb; have n0_ := Aside0.mk (Kd.R_below (qr_ HO_11.out) hb); have n1_ := Aside0.mk (Kd.R_below (qr_ HO_69.out) hb); have n2_ := Aside0.mk (Kd.R_below (qr_ HO_172004.out) hb); have n3_ := Aside0.mk (Kd.R_below (qr_ HOv4.out) hb); have n4_ := Aside0.mk (blk_below (g := gbv1) (o := .cells #[.int .i64 tv4, .int .i64 tv5, .int .i64 tv6, .int .i64 tv7, .slice Aov1 tv8.length cov1] 24 (0, 0)) (qb_ BKv1.out) hb); have n5_ := Aside0.mk (below_step (qg1_ GEv1.out) hb); have n6_ := Aside0.mk (hbox); have n7_ := Aside0.mk ((by rw [hg]; exact (below_size (qg1_ GEv1.out)) : w.heap.size ≤ gbv2)); have n8_ := Aside0.mk ((by rw [hg]; exact (below_size (qg1_ GEv1.out)) : w.heap.size ≤ gbv2)); have n9_ := Aside0.mk ((by rw [hg]; exact Nat.ne_of_lt (blk_lt (g := gbv1) (o := .cells #[.int .i64 tv4, .int .i64 tv5, .int .i64 tv6, .int .i64 tv7, .slice Aov1 tv8.length cov1] 24 (0, 0)) (qb_ BKv1.out)) : gbv1 ≠ gbv2)); have n10_ := Aside0.mk ((by rw [hg]; exact Nat.ne_of_gt (blk_lt (g := gbv1) (o := .cells #[.int .i64 tv4, .int .i64 tv5, .int .i64 tv6, .int .i64 tv7, .slice Aov1 tv8.length cov1] 24 (0, 0)) (qb_ BKv1.out)) : gbv2 ≠ gbv1)); clear HO_11; clear HO_69; clear HO_172004; clear HOv4; clear BKv1; clear HB; have HO_11 := n0_; have HO_69 := n1_; have HO_172004 := n2_; have HOv4 := n3_; have BKv1 := n4_; have HB := n5_; have BKv2 := n6_; have GWv2 := n7_; have GEv2 := n8_; have NBv1 := n9_; have NBv2 := n10_; clear n0_ n1_ n2_ n3_ n4_ n5_ n6_ n7_ n8_ n9_ n10_; clear hb hbox hg; have hnbv1 := NBv2.out; have hncv1 := NBv1.out; have hczv21 : wv8.cell? ⟨gbv2, 0, none⟩ = some (.int .i64 0) := (blk_cell BKv2.out 0).trans rfl; have hczv22 : wv8.cell? ⟨gbv2, 1, none⟩ = some (.int .i64 0) := (blk_cell BKv2.out 1).trans rfl; have hczv23 : wv8.cell? ⟨gbv2, 2, none⟩ = some (.int .i64 0) := (blk_cell BKv2.out 2).trans rfl; have hczv24 : wv8.cell? ⟨gbv2, 3, none⟩ = some (.int .i64 0) := (blk_cell BKv2.out 3).trans rfl; have hczv25 : wv8.cell? ⟨gbv2, 4, none⟩ = some (.slice none 0 0) := (blk_cell BKv2.out 4).trans rfl; have hfzv21 := blk_frozen BKv2.out 0; have hfzv22 := blk_frozen BKv2.out 1; have hfzv23 := blk_frozen BKv2.out 2; have hfzv24 := blk_frozen BKv2.out 3; have hfzv25 := blk_frozen BKv2.out 4; obtain ⟨Aov3, cov3, eov3⟩ := Kd.R_slice HOv4.out; subst eov3) | ((with_reducible refine gate_callee (f := 22) rfl ?_); refine goesL_ (some 85) rfl rfl Try.func22 (by kernel_rfl) rfl #[.slice A0 l0.length c0, .int .i64 (rd xv2 xv8)] rfl qm_ ?_; (with_reducible refine (arena_Low.calls _ _ l0 (rd xv2 xv8) tv20 tv21 _ ?side1 ?side2 Av12.out).mono ?_); (case side1 => exact Kd.C_below HR0.out (qg2_ GEv1.out GEv2.out)); (case side2 => exact HC0.out); rintro e wv9 ⟨rfl, hb⟩; refine ⟨_, rfl, ?_⟩; have n0_ := Aside0.mk (Kd.R_below (by (with_reducible repeat (first | apply Kd.R_alloc | apply Kd.R_drewN | apply Kd.R_drew)); exact (Kd.R_mono (Kd.R_far (p := ⟨gbv2, 4, none⟩) (Kd.R_far (p := ⟨gbv2, 3, none⟩) (Kd.R_far (p := ⟨gbv2, 2, none⟩) (Kd.R_far (p := ⟨gbv2, 1, none⟩) (Kd.R_far (p := ⟨gbv2, 0, none⟩) (Kd.R_types HO_11.out BKv2.out (by decide)) (fun _ hk => hk.2) (.int .i64 tv14)) (fun _ hk => hk.2) (.int .i64 tv15)) (fun _ hk => hk.2) (.int .i64 tv16)) (fun _ hk => hk.2) (.int .i64 tv17)) (fun _ hk => hk.2) (.slice Aov3 tv18.length cov3)) (fun _ h_ => h_.1))) hb); have n1_ := Aside0.mk (Kd.R_below (by (with_reducible repeat (first | apply Kd.R_alloc | apply Kd.R_drewN | apply Kd.R_drew)); exact (Kd.R_mono (Kd.R_far (p := ⟨gbv2, 4, none⟩) (Kd.R_far (p := ⟨gbv2, 3, none⟩) (Kd.R_far (p := ⟨gbv2, 2, none⟩) (Kd.R_far (p := ⟨gbv2, 1, none⟩) (Kd.R_far (p := ⟨gbv2, 0, none⟩) (Kd.R_types HO_69.out BKv2.out (by decide)) (fun _ hk => hk.2) (.int .i64 tv14)) (fun _ hk => hk.2) (.int .i64 tv15)) (fun _ hk => hk.2) (.int .i64 tv16)) (fun _ hk => hk.2) (.int .i64 tv17)) (fun _ hk => hk.2) (.slice Aov3 tv18.length cov3)) (fun _ h_ => h_.1))) hb); have n2_ := Aside0.mk (Kd.R_below (by (with_reducible repeat (first | apply Kd.R_alloc | apply Kd.R_drewN | apply Kd.R_drew)); exact (Kd.R_mono (Kd.R_far (p := ⟨gbv2, 4, none⟩) (Kd.R_far (p := ⟨gbv2, 3, none⟩) (Kd.R_far (p := ⟨gbv2, 2, none⟩) (Kd.R_far (p := ⟨gbv2, 1, none⟩) (Kd.R_far (p := ⟨gbv2, 0, none⟩) (Kd.R_types HO_172004.out BKv2.out (by decide)) (fun _ hk => hk.2) (.int .i64 tv14)) (fun _ hk => hk.2) (.int .i64 tv15)) (fun _ hk => hk.2) (.int .i64 tv16)) (fun _ hk => hk.2) (.int .i64 tv17)) (fun _ hk => hk.2) (.slice Aov3 tv18.length cov3)) (fun _ h_ => h_.1))) hb); have n3_ := Aside0.mk (Kd.R_below (by (with_reducible repeat (first | apply Kd.R_alloc | apply Kd.R_drewN | apply Kd.R_drew)); exact (Kd.R_mono (Kd.R_far (p := ⟨gbv2, 4, none⟩) (Kd.R_far (p := ⟨gbv2, 3, none⟩) (Kd.R_far (p := ⟨gbv2, 2, none⟩) (Kd.R_far (p := ⟨gbv2, 1, none⟩) (Kd.R_far (p := ⟨gbv2, 0, none⟩) (Kd.R_types HOv4.out BKv2.out (by decide)) (fun _ hk => hk.2) (.int .i64 tv14)) (fun _ hk => hk.2) (.int .i64 tv15)) (fun _ hk => hk.2) (.int .i64 tv16)) (fun _ hk => hk.2) (.int .i64 tv17)) (fun _ hk => hk.2) (.slice Aov3 tv18.length cov3)) (fun _ h_ => h_.1))) hb); have n4_ := Aside0.mk (blk_below (g := gbv1) (o := .cells #[.int .i64 tv4, .int .i64 tv5, .int .i64 tv6, .int .i64 tv7, .slice Aov1 tv8.length cov1] 24 (0, 0)) (by (with_reducible repeat (first | refine blk_drewN ?_ _ | refine blk_drew ?_ | refine blk_alloc ?_ _)); refine blk_far ?_ NBv1.out _; (with_reducible repeat (first | refine blk_drewN ?_ _ | refine blk_drew ?_ | refine blk_alloc ?_ _)); refine blk_far ?_ NBv1.out _; (with_reducible repeat (first | refine blk_drewN ?_ _ | refine blk_drew ?_ | refine blk_alloc ?_ _)); refine blk_far ?_ NBv1.out _; (with_reducible repeat (first | refine blk_drewN ?_ _ | refine blk_drew ?_ | refine blk_alloc ?_ _)); refine blk_far ?_ NBv1.out _; (with_reducible repeat (first | refine blk_drewN ?_ _ | refine blk_drew ?_ | refine blk_alloc ?_ _)); refine blk_far ?_ NBv1.out _; (with_reducible repeat (first | refine blk_drewN ?_ _ | refine blk_drew ?_ | refine blk_alloc ?_ _)); exact BKv1.out) hb); have n5_ := Aside0.mk (blk_below (g := gbv2) (o := .cells #[.int .i64 tv14, .int .i64 tv15, .int .i64 tv16, .int .i64 tv17, .slice Aov3 tv18.length cov3] 24 (0, 0)) (by (with_reducible repeat (first | refine blk_drewN ?_ _ | refine blk_drew ?_ | refine blk_alloc ?_ _)); refine blk_put (cs := #[.int .i64 tv14, .int .i64 tv15, .int .i64 tv16, .int .i64 tv17, .slice none 0 0]) ?_ 4 _ rfl; (with_reducible repeat (first | refine blk_drewN ?_ _ | refine blk_drew ?_ | refine blk_alloc ?_ _)); refine blk_put (cs := #[.int .i64 tv14, .int .i64 tv15, .int .i64 tv16, .int .i64 0, .slice none 0 0]) ?_ 3 _ rfl; (with_reducible repeat (first | refine blk_drewN ?_ _ | refine blk_drew ?_ | refine blk_alloc ?_ _)); refine blk_put (cs := #[.int .i64 tv14, .int .i64 tv15, .int .i64 0, .int .i64 0, .slice none 0 0]) ?_ 2 _ rfl; (with_reducible repeat (first | refine blk_drewN ?_ _ | refine blk_drew ?_ | refine blk_alloc ?_ _)); refine blk_put (cs := #[.int .i64 tv14, .int .i64 0, .int .i64 0, .int .i64 0, .slice none 0 0]) ?_ 1 _ rfl; (with_reducible repeat (first | refine blk_drewN ?_ _ | refine blk_drew ?_ | refine blk_alloc ?_ _)); refine blk_put (cs := #[.int .i64 0, .int .i64 0, .int .i64 0, .int .i64 0, .slice none 0 0]) ?_ 0 _ rfl; (with_reducible repeat (first | refine blk_drewN ?_ _ | refine blk_drew ?_ | refine blk_alloc ?_ _)); exact BKv2.out) hb); have n6_ := Aside0.mk (below_step (qg2_ GEv1.out GEv2.out) hb); clear HO_11; clear HO_69; clear HO_172004; clear HOv4; clear BKv1; clear BKv2; clear HB; have HO_11 := n0_; have HO_69 := n1_; have HO_172004 := n2_; have HOv4 := n3_; have BKv1 := n4_; have BKv2 := n5_; have HB := n6_; clear n0_ n1_ n2_ n3_ n4_ n5_ n6_; (try clear hb); (try clear hbv1); (try clear hk); (try clear hi); have hczv26 : wv9.cell? ⟨gbv2, 0, none⟩ = some (.int .i64 tv14) := (blk_cell BKv2.out 0).trans rfl; have hczv27 : wv9.cell? ⟨gbv2, 1, none⟩ = some (.int .i64 tv15) := (blk_cell BKv2.out 1).trans rfl; have hczv28 : wv9.cell? ⟨gbv2, 2, none⟩ = some (.int .i64 tv16) := (blk_cell BKv2.out 2).trans rfl; have hczv29 : wv9.cell? ⟨gbv2, 3, none⟩ = some (.int .i64 tv17) := (blk_cell BKv2.out 3).trans rfl; have hczv30 : wv9.cell? ⟨gbv2, 4, none⟩ = some (.slice Aov3 tv18.length cov3) := (blk_cell BKv2.out 4).trans rfl; have hfzv26 := blk_frozen BKv2.out 0; have hfzv27 := blk_frozen BKv2.out 1; have hfzv28 := blk_frozen BKv2.out 2; have hfzv29 := blk_frozen BKv2.out 3; have hfzv30 := blk_frozen BKv2.out 4; obtain ⟨Aov4, cov4, eov4⟩ := Kd.R_slice HO_11.out; subst eov4) | (go_at_call 61; (with_reducible refine (index_leads.calls kv2 _ _ l0 tv14 tv15 tv16 tv17 _ _ tv18 tv20 _ _ tv12 tv23 _ ?side1 ?side2 ?side3 ?side4 ?side5 ?side6 Av14.out).mono ?_); (case side1 => repeat (first | exact (Kd.C_below HR0.out HB.out) | (with_reducible refine Kd.C_alloc ?_ _) | (with_reducible refine Kd.C_drewN ?_ _) | (with_reducible refine Kd.C_drew ?_))); (case side2 => exact HC0.out); (case side3 => repeat (first | exact (Kd.R_reads' HOv4.out).2.2 | (with_reducible refine Kd.C_alloc ?_ _) | (with_reducible refine Kd.C_drewN ?_ _) | (with_reducible refine Kd.C_drew ?_))); (case side4 => exact (Kd.R_reads' HOv4.out).2.1); (case side5 => repeat (first | exact (Kd.R_reads' HO_11.out).2.2 | (with_reducible refine Kd.C_alloc ?_ _) | (with_reducible refine Kd.C_drewN ?_ _) | (with_reducible refine Kd.C_drew ?_))); (case side6 => exact (Kd.R_reads' HO_11.out).2.1); rintro e wv10 ⟨rfl, hb⟩; have n0_ := Aside0.mk (Kd.R_below (qr_ HO_11.out) hb); have n1_ := Aside0.mk (Kd.R_below (qr_ HO_69.out) hb); have n2_ := Aside0.mk (Kd.R_below (qr_ HO_172004.out) hb); have n3_ := Aside0.mk (Kd.R_below (qr_ HOv4.out) hb); have n4_ := Aside0.mk (blk_below (g := gbv1) (o := .cells #[.int .i64 tv4, .int .i64 tv5, .int .i64 tv6, .int .i64 tv7, .slice Aov1 tv8.length cov1] 24 (0, 0)) (qb_ BKv1.out) hb); have n5_ := Aside0.mk (blk_below (g := gbv2) (o := .cells #[.int .i64 tv14, .int .i64 tv15, .int .i64 tv16, .int .i64 tv17, .slice Aov3 tv18.length cov3] 24 (0, 0)) (qb_ BKv2.out) hb); have n6_ := Aside0.mk (below_step (qg2_ GEv1.out GEv2.out) hb); clear HO_11; clear HO_69; clear HO_172004; clear HOv4; clear BKv1; clear BKv2; clear HB; have HO_11 := n0_; have HO_69 := n1_; have HO_172004 := n2_; have HOv4 := n3_; have BKv1 := n4_; have BKv2 := n5_; have HB := n6_; clear n0_ n1_ n2_ n3_ n4_ n5_ n6_; (try clear hb); (try clear hbv1); (try clear hk); (try clear hi)))
             go_roundg kv2
             case measure => have := HJv1.out; have := HKv1.out; have := HJv2.out; have := HKv2.out; omega
             case rel => exact ⟨(tv23), (tv20), (wrap64 (xv8 + 1)), (by first | rfl | (simp; done) | (simp [*]; done)), (by first | rfl | (simp; done) | (simp [*]; done)), (by first | rfl | (simp; done) | (simp [*]; done)), H', ⟨by have := HJv1.out; have := HKv1.out; have := HJv2.out; have := HKv2.out; omega⟩, ⟨by (with_reducible repeat (first | apply Kd.R_alloc | apply Kd.R_drewN | apply Kd.R_drew)); exact Kd.R_mono HO_11.out (fun _ hk => ⟨hk.1.1, hk.1.2⟩)⟩, ⟨by (with_reducible repeat (first | apply Kd.R_alloc | apply Kd.R_drewN | apply Kd.R_drew)); exact Kd.R_mono HO_69.out (fun _ hk => ⟨hk.1.1, hk.1.2⟩)⟩, ⟨by (with_reducible repeat (first | apply Kd.R_alloc | apply Kd.R_drewN | apply Kd.R_drew)); exact Kd.R_mono HO_172004.out (fun _ hk => ⟨hk.1.1, hk.1.2⟩)⟩, ⟨by (with_reducible repeat (first | refine blk_drewN ?_ _ | refine blk_drew ?_ | refine blk_alloc ?_ _)); exact BKv1.out⟩, ⟨by repeat (first | (with_reducible first | exact HB.out | apply below_alloc | apply pw_below_drewN | apply below_drew1 | refine below_set ?_ GEv1.out | refine below_set ?_ GEv2.out) | exact HB.out)⟩⟩
           rw [if_neg cv19] at H
           have c47b0 : (Op.bytesLess xv7.toList tv20.toList) = false := by simpa using cv19
           clear cv19
           have hq0 := Aside0.mk True.intro
           rotate_left
           rw [if_neg cv18] at H
           have c46b0 : decide (0 < xv8) = false := decide_eq_false cv18
           clear cv18
           have hq0 := Aside0.mk True.intro
           rotate_left
           rw [if_neg cv16] at H
           have c34b0 : (xv8 == 0) = false := beq_eq_false_iff_ne.mpr cv16
           have c34b1 : (xv8 != 0) = true := bne_iff_ne.mpr cv16
           by_cases cv17 : xv8 > 0
           rw [if_pos cv17] at H
           have c72b0 : decide (0 < xv8) = true := decide_eq_true cv17
           clear cv17
           by_cases cv18 : (Op.bytesLess xv7.toList tv20.toList) = true
           · rw [if_pos cv18] at H
             have c73b0 : (Op.bytesLess xv7.toList tv20.toList) = true := cv18
             clear cv18
             replace H := Option.bind_eq_some_iff.mp H
             obtain ⟨tv24, Av13, H⟩ := H
             try dsimp only at H
             have Av14 := Aside0.mk Av13
             clear Av13
             have H' := Aside0.mk H
             clear H
             have pv2 : 0 ≤ (xv8 : Int) := of_decide_eq_true (by first | (with_reducible assumption) | assumption)
             have qv1 : xv8 < (xv2.length : Int) := of_decide_eq_true (by first | (with_reducible assumption) | assumption)
             obtain ⟨adv1, ev1, hxv1⟩ := Kd.at_int (Kd.R_reads' HO_69.out).2.2 xv8 pv2 qv1
             cases ev1
             replace pv2 := eq_true pv2
             replace qv1 := eq_true qv1
             go_wp2_with (first | ((with_reducible refine gate_callee (f := 21) rfl ?_); refine goesL_ (some 79) rfl rfl Try.func21 (by kernel_rfl) rfl #[.slice A0 l0.length c0, .int .i64 (rd xv2 xv8)] rfl qm_ ?_; (with_reducible refine (node_Read.calls _ _ l0 (rd xv2 xv8) tv14 tv15 tv16 tv17 tv18 tv19 _ ?side1 ?side2 Av10.out).mono ?_); (case side1 => repeat (first | exact (Kd.C_below HR0.out HB.out) | (with_reducible refine Kd.C_alloc ?_ _) | (with_reducible refine Kd.C_drewN ?_ _) | (with_reducible refine Kd.C_drew ?_))); (case side2 => exact HC0.out); rintro e wv7 ⟨vvvvv1, rfl, hov1, hb⟩; refine ⟨_, rfl, ?_⟩; have n0_ := Aside0.mk (Kd.R_elder' (qr_ HO_11.out) (Kd.R_base hov1) hb); have n1_ := Aside0.mk (Kd.R_elder' (qr_ HO_69.out) (Kd.R_base hov1) hb); have n2_ := Aside0.mk (Kd.R_elder' (qr_ HO_172004.out) (Kd.R_base hov1) hb); have n3_ := Aside0.mk (Kd.R_lower (Kd.R_new' (Kd.R_new' (Kd.R_new' hov1 (Kd.R_lt (qr_ HO_11.out))) (Kd.R_lt (qr_ HO_69.out))) (Kd.R_lt (qr_ HO_172004.out))) (below_size (qg1_ GEv1.out))); have n4_ := Aside0.mk (blk_below (g := gbv1) (o := .cells #[.int .i64 tv4, .int .i64 tv5, .int .i64 tv6, .int .i64 tv7, .slice Aov1 tv8.length cov1] 24 (0, 0)) (qb_ BKv1.out) hb); have n5_ := Aside0.mk (below_step (qg1_ GEv1.out) hb); clear HO_11; clear HO_69; clear HO_172004; clear BKv1; clear HB; have HO_11 := n0_; have HO_69 := n1_; have HO_172004 := n2_; have HOv4 := n3_; have BKv1 := n4_; have HB := n5_; clear n0_ n1_ n2_ n3_ n4_ n5_; (try clear hb); (try clear hbv1); (try clear hk); (try clear hi); (try clear hov1)) | ((with_reducible refine gate_dst (N := 15) rfl ?_); refine box_event ?hg (N := 15) ?hd (cs := #[.int .i64 0, .int .i64 0, .int .i64 0, .int .i64 0, .slice none 0 0]) (t := 24) ?hr ?_; (case hd => rfl); (case hg => rfl); (case hr => first | (go_simp; done) | (go_simp; rfl)); intro gbv2 hg wv8 hbox hb; have n0_ := Aside0.mk (Kd.R_below (qr_ HO_11.out) hb); have n1_ := Aside0.mk (Kd.R_below (qr_ HO_69.out) hb); have n2_ := Aside0.mk (Kd.R_below (qr_ HO_172004.out) hb); have n3_ := Aside0.mk (Kd.R_below (qr_ HOv4.out) hb); have n4_ := Aside0.mk (blk_below (g := gbv1) (o := .cells #[.int .i64 tv4, .int .i64 tv5, .int .i64 tv6, .int .i64 tv7, .slice Aov1 tv8.length cov1] 24 (0, 0)) (qb_ BKv1.out) hb); have n5_ := Aside0.mk (below_step (qg1_ GEv1.out) hb); have n6_ := Aside0.mk (hbox); have n7_ := Aside0.mk ((by rw [hg]; exact (below_size (qg1_ GEv1.out)) : w.heap.size ≤ gbv2)); have n8_ := Aside0.mk ((by rw [hg]; exact (below_size (qg1_ GEv1.out)) : w.heap.size ≤ gbv2)); have n9_ := Aside0.mk ((by rw [hg]; exact Nat.ne_of_lt (blk_lt (g := gbv1) (o := .cells #[.int .i64 tv4, .int .i64 tv5, .int .i64 tv6, .int .i64 tv7, .slice Aov1 tv8.length cov1] 24 (0, 0)) (qb_ BKv1.out)) : gbv1 ≠ gbv2)); have n10_ := Aside0.mk ((by rw [hg]; exact Nat.ne_of_gt (blk_lt (g := gbv1) (o := .cells #[.int .i64 tv4, .int .i64 tv5, .int .i64 tv6, .int .i64 tv7, .slice Aov1 tv8.length cov1] 24 (0, 0)) (qb_ BKv1.out)) : gbv2 ≠ gbv1)); clear HO_11; clear HO_69; clear HO_172004; clear HOv4; clear BKv1; clear HB; have HO_11 := n0_; have HO_69 := n1_; have HO_172004 := n2_; have HOv4 := n3_; have BKv1 := n4_; have HB := n5_; have BKv2 := n6_; have GWv2 := n7_; have GEv2 := n8_; have NBv1 := n9_; have NBv2 := n10_; clear n0_ n1_ n2_ n3_ n4_ n5_ n6_ n7_ n8_ n9_ n10_; clear hb hbox hg; have hnbv1 := NBv2.out; have hncv1 := NBv1.out; have hczv21 : wv8.cell? ⟨gbv2, 0, none⟩ = some (.int .i64 0) := (blk_cell BKv2.out 0).trans rfl; have hczv22 : wv8.cell? ⟨gbv2, 1, none⟩ = some (.int .i64 0) := (blk_cell BKv2.out 1).trans rfl; have hczv23 : wv8.cell? ⟨gbv2, 2, none⟩ = some (.int .i64 0) := (blk_cell BKv2.out 2).trans rfl; have hczv24 : wv8.cell? ⟨gbv2, 3, none⟩ = some (.int .i64 0) := (blk_cell BKv2.out 3).trans rfl; have hczv25 : wv8.cell? ⟨gbv2, 4, none⟩ = some (.slice none 0 0) := (blk_cell BKv2.out 4).trans rfl; have hfzv21 := blk_frozen BKv2.out 0; have hfzv22 := blk_frozen BKv2.out 1; have hfzv23 := blk_frozen BKv2.out 2; have hfzv24 := blk_frozen BKv2.out 3; have hfzv25 := blk_frozen BKv2.out 4; obtain ⟨Aov3, cov3, eov3⟩ := Kd.R_slice HOv4.out; subst eov3) | ((with_reducible refine gate_callee (f := 22) rfl ?_); refine goesL_ (some 85) rfl rfl Try.func22 (by kernel_rfl) rfl #[.slice A0 l0.length c0, .int .i64 (rd xv2 xv8)] rfl qm_ ?_; (with_reducible refine (arena_Low.calls _ _ l0 (rd xv2 xv8) tv20 tv21 _ ?side1 ?side2 Av12.out).mono ?_); (case side1 => exact Kd.C_below HR0.out (qg2_ GEv1.out GEv2.out)); (case side2 => exact HC0.out); rintro e wv9 ⟨rfl, hb⟩; refine ⟨_, rfl, ?_⟩; have n0_ := Aside0.mk (Kd.R_below (by (with_reducible repeat (first | apply Kd.R_alloc | apply Kd.R_drewN | apply Kd.R_drew)); exact (Kd.R_mono (Kd.R_far (p := ⟨gbv2, 4, none⟩) (Kd.R_far (p := ⟨gbv2, 3, none⟩) (Kd.R_far (p := ⟨gbv2, 2, none⟩) (Kd.R_far (p := ⟨gbv2, 1, none⟩) (Kd.R_far (p := ⟨gbv2, 0, none⟩) (Kd.R_types HO_11.out BKv2.out (by decide)) (fun _ hk => hk.2) (.int .i64 tv14)) (fun _ hk => hk.2) (.int .i64 tv15)) (fun _ hk => hk.2) (.int .i64 tv16)) (fun _ hk => hk.2) (.int .i64 tv17)) (fun _ hk => hk.2) (.slice Aov3 tv18.length cov3)) (fun _ h_ => h_.1))) hb); have n1_ := Aside0.mk (Kd.R_below (by (with_reducible repeat (first | apply Kd.R_alloc | apply Kd.R_drewN | apply Kd.R_drew)); exact (Kd.R_mono (Kd.R_far (p := ⟨gbv2, 4, none⟩) (Kd.R_far (p := ⟨gbv2, 3, none⟩) (Kd.R_far (p := ⟨gbv2, 2, none⟩) (Kd.R_far (p := ⟨gbv2, 1, none⟩) (Kd.R_far (p := ⟨gbv2, 0, none⟩) (Kd.R_types HO_69.out BKv2.out (by decide)) (fun _ hk => hk.2) (.int .i64 tv14)) (fun _ hk => hk.2) (.int .i64 tv15)) (fun _ hk => hk.2) (.int .i64 tv16)) (fun _ hk => hk.2) (.int .i64 tv17)) (fun _ hk => hk.2) (.slice Aov3 tv18.length cov3)) (fun _ h_ => h_.1))) hb); have n2_ := Aside0.mk (Kd.R_below (by (with_reducible repeat (first | apply Kd.R_alloc | apply Kd.R_drewN | apply Kd.R_drew)); exact (Kd.R_mono (Kd.R_far (p := ⟨gbv2, 4, none⟩) (Kd.R_far (p := ⟨gbv2, 3, none⟩) (Kd.R_far (p := ⟨gbv2, 2, none⟩) (Kd.R_far (p := ⟨gbv2, 1, none⟩) (Kd.R_far (p := ⟨gbv2, 0, none⟩) (Kd.R_types HO_172004.out BKv2.out (by decide)) (fun _ hk => hk.2) (.int .i64 tv14)) (fun _ hk => hk.2) (.int .i64 tv15)) (fun _ hk => hk.2) (.int .i64 tv16)) (fun _ hk => hk.2) (.int .i64 tv17)) (fun _ hk => hk.2) (.slice Aov3 tv18.length cov3)) (fun _ h_ => h_.1))) hb); have n3_ := Aside0.mk (Kd.R_below (by (with_reducible repeat (first | apply Kd.R_alloc | apply Kd.R_drewN | apply Kd.R_drew)); exact (Kd.R_mono (Kd.R_far (p := ⟨gbv2, 4, none⟩) (Kd.R_far (p := ⟨gbv2, 3, none⟩) (Kd.R_far (p := ⟨gbv2, 2, none⟩) (Kd.R_far (p := ⟨gbv2, 1, none⟩) (Kd.R_far (p := ⟨gbv2, 0, none⟩) (Kd.R_types HOv4.out BKv2.out (by decide)) (fun _ hk => hk.2) (.int .i64 tv14)) (fun _ hk => hk.2) (.int .i64 tv15)) (fun _ hk => hk.2) (.int .i64 tv16)) (fun _ hk => hk.2) (.int .i64 tv17)) (fun _ hk => hk.2) (.slice Aov3 tv18.length cov3)) (fun _ h_ => h_.1))) hb); have n4_ := Aside0.mk (blk_below (g := gbv1) (o := .cells #[.int .i64 tv4, .int .i64 tv5, .int .i64 tv6, .int .i64 tv7, .slice Aov1 tv8.length cov1] 24 (0, 0)) (by (with_reducible repeat (first | refine blk_drewN ?_ _ | refine blk_drew ?_ | refine blk_alloc ?_ _)); refine blk_far ?_ NBv1.out _; (with_reducible repeat (first | refine blk_drewN ?_ _ | refine blk_drew ?_ | refine blk_alloc ?_ _)); refine blk_far ?_ NBv1.out _; (with_reducible repeat (first | refine blk_drewN ?_ _ | refine blk_drew ?_ | refine blk_alloc ?_ _)); refine blk_far ?_ NBv1.out _; (with_reducible repeat (first | refine blk_drewN ?_ _ | refine blk_drew ?_ | refine blk_alloc ?_ _)); refine blk_far ?_ NBv1.out _; (with_reducible repeat (first | refine blk_drewN ?_ _ | refine blk_drew ?_ | refine blk_alloc ?_ _)); refine blk_far ?_ NBv1.out _; (with_reducible repeat (first | refine blk_drewN ?_ _ | refine blk_drew ?_ | refine blk_alloc ?_ _)); exact BKv1.out) hb); have n5_ := Aside0.mk (blk_below (g := gbv2) (o := .cells #[.int .i64 tv14, .int .i64 tv15, .int .i64 tv16, .int .i64 tv17, .slice Aov3 tv18.length cov3] 24 (0, 0)) (by (with_reducible repeat (first | refine blk_drewN ?_ _ | refine blk_drew ?_ | refine blk_alloc ?_ _)); refine blk_put (cs := #[.int .i64 tv14, .int .i64 tv15, .int .i64 tv16, .int .i64 tv17, .slice none 0 0]) ?_ 4 _ rfl; (with_reducible repeat (first | refine blk_drewN ?_ _ | refine blk_drew ?_ | refine blk_alloc ?_ _)); refine blk_put (cs := #[.int .i64 tv14, .int .i64 tv15, .int .i64 tv16, .int .i64 0, .slice none 0 0]) ?_ 3 _ rfl; (with_reducible repeat (first | refine blk_drewN ?_ _ | refine blk_drew ?_ | refine blk_alloc ?_ _)); refine blk_put (cs := #[.int .i64 tv14, .int .i64 tv15, .int .i64 0, .int .i64 0, .slice none 0 0]) ?_ 2 _ rfl; (with_reducible repeat (first | refine blk_drewN ?_ _ | refine blk_drew ?_ | refine blk_alloc ?_ _)); refine blk_put (cs := #[.int .i64 tv14, .int .i64 0, .int .i64 0, .int .i64 0, .slice none 0 0]) ?_ 1 _ rfl; (with_reducible repeat (first | refine blk_drewN ?_ _ | refine blk_drew ?_ | refine blk_alloc ?_ _)); refine blk_put (cs := #[.int .i64 0, .int .i64 0, .int .i64 0, .int .i64 0, .slice none 0 0]) ?_ 0 _ rfl; (with_reducible repeat (first | refine blk_drewN ?_ _ | refine blk_drew ?_ | refine blk_alloc ?_ _)); exact BKv2.out) hb); have n6_ := Aside0.mk (below_step (qg2_ GEv1.out GEv2.out) hb); clear HO_11; clear HO_69; clear HO_172004; clear HOv4; clear BKv1; clear BKv2; clear HB; have HO_11 := n0_; have HO_69 := n1_; have HO_172004 := n2_; have HOv4 := n3_; have BKv1 := n4_; have BKv2 := n5_; have HB := n6_; clear n0_ n1_ n2_ n3_ n4_ n5_ n6_; (try clear hb); (try clear hbv1); (try clear hk); (try clear hi); have hczv26 : wv9.cell? ⟨gbv2, 0, none⟩ = some (.int .i64 tv14) := (blk_cell BKv2.out 0).trans rfl; have hczv27 : wv9.cell? ⟨gbv2, 1, none⟩ = some (.int .i64 tv15) := (blk_cell BKv2.out 1).trans rfl; have hczv28 : wv9.cell? ⟨gbv2, 2, none⟩ = some (.int .i64 tv16) := (blk_cell BKv2.out 2).trans rfl; have hczv29 : wv9.cell? ⟨gbv2, 3, none⟩ = some (.int .i64 tv17) := (blk_cell BKv2.out 3).trans rfl; have hczv30 : wv9.cell? ⟨gbv2, 4, none⟩ = some (.slice Aov3 tv18.length cov3) := (blk_cell BKv2.out 4).trans rfl; have hfzv26 := blk_frozen BKv2.out 0; have hfzv27 := blk_frozen BKv2.out 1; have hfzv28 := blk_frozen BKv2.out 2; have hfzv29 := blk_frozen BKv2.out 3; have hfzv30 := blk_frozen BKv2.out 4; obtain ⟨Aov4, cov4, eov4⟩ := Kd.R_slice HO_11.out; subst eov4) | (go_at_call 61; (with_reducible refine (index_leads.calls kv2 _ _ l0 tv14 tv15 tv16 tv17 _ _ tv18 tv20 _ _ tv12 tv24 _ ?side1 ?side2 ?side3 ?side4 ?side5 ?side6 Av14.out).mono ?_); (case side1 => repeat (first | exact (Kd.C_below HR0.out HB.out) | (with_reducible refine Kd.C_alloc ?_ _) | (with_reducible refine Kd.C_drewN ?_ _) | (with_reducible refine Kd.C_drew ?_))); (case side2 => exact HC0.out); (case side3 => repeat (first | exact (Kd.R_reads' HOv4.out).2.2 | (with_reducible refine Kd.C_alloc ?_ _) | (with_reducible refine Kd.C_drewN ?_ _) | (with_reducible refine Kd.C_drew ?_))); (case side4 => exact (Kd.R_reads' HOv4.out).2.1); (case side5 => repeat (first | exact (Kd.R_reads' HO_11.out).2.2 | (with_reducible refine Kd.C_alloc ?_ _) | (with_reducible refine Kd.C_drewN ?_ _) | (with_reducible refine Kd.C_drew ?_))); (case side6 => exact (Kd.R_reads' HO_11.out).2.1); rintro e wv10 ⟨rfl, hb⟩; have n0_ := Aside0.mk (Kd.R_below (qr_ HO_11.out) hb); have n1_ := Aside0.mk (Kd.R_below (qr_ HO_69.out) hb); have n2_ := Aside0.mk (Kd.R_below (qr_ HO_172004.out) hb); have n3_ := Aside0.mk (Kd.R_below (qr_ HOv4.out) hb); have n4_ := Aside0.mk (blk_below (g := gbv1) (o := .cells #[.int .i64 tv4, .int .i64 tv5, .int .i64 tv6, .int .i64 tv7, .slice Aov1 tv8.length cov1] 24 (0, 0)) (qb_ BKv1.out) hb); have n5_ := Aside0.mk (blk_below (g := gbv2) (o := .cells #[.int .i64 tv14, .int .i64 tv15, .int .i64 tv16, .int .i64 tv17, .slice Aov3 tv18.length cov3] 24 (0, 0)) (qb_ BKv2.out) hb); have n6_ := Aside0.mk (below_step (qg2_ GEv1.out GEv2.out) hb); clear HO_11; clear HO_69; clear HO_172004; clear HOv4; clear BKv1; clear BKv2; clear HB; have HO_11 := n0_; have HO_69 := n1_; have HO_172004 := n2_; have HOv4 := n3_; have BKv1 := n4_; have BKv2 := n5_; have HB := n6_; clear n0_ n1_ n2_ n3_ n4_ n5_ n6_; (try clear hb); (try clear hbv1); (try clear hk); (try clear hi)))
             go_roundg kv2
             case measure => have := HJv1.out; have := HKv1.out; have := HJv2.out; have := HKv2.out; omega
             case rel => exact ⟨(tv24), (tv20), (wrap64 (xv8 + 1)), (by first | rfl | (simp; done) | (simp [*]; done)), (by first | rfl | (simp; done) | (simp [*]; done)), (by first | rfl | (simp; done) | (simp [*]; done)), H', ⟨by have := HJv1.out; have := HKv1.out; have := HJv2.out; have := HKv2.out; omega⟩, ⟨by (with_reducible repeat (first | apply Kd.R_alloc | apply Kd.R_drewN | apply Kd.R_drew)); exact Kd.R_mono HO_11.out (fun _ hk => ⟨hk.1.1, hk.1.2⟩)⟩, ⟨by (with_reducible repeat (first | apply Kd.R_alloc | apply Kd.R_drewN | apply Kd.R_drew)); exact Kd.R_mono HO_69.out (fun _ hk => ⟨hk.1.1, hk.1.2⟩)⟩, ⟨by (with_reducible repeat (first | apply Kd.R_alloc | apply Kd.R_drewN | apply Kd.R_drew)); exact Kd.R_mono HO_172004.out (fun _ hk => ⟨hk.1.1, hk.1.2⟩)⟩, ⟨by (with_reducible repeat (first | refine blk_drewN ?_ _ | refine blk_drew ?_ | refine blk_alloc ?_ _)); exact BKv1.out⟩, ⟨by repeat (first | (with_reducible first | exact HB.out | apply below_alloc | apply pw_below_drewN | apply below_drew1 | refine below_set ?_ GEv1.out | refine below_set ?_ GEv2.out) | exact HB.out)⟩⟩
           rw [if_neg cv18] at H
           have c73b0 : (Op.bytesLess xv7.toList tv20.toList) = false := by simpa using cv18
           clear cv18
           have hq1 := Aside0.mk True.intro
           rotate_left
           rw [if_neg cv17] at H
           have c72b0 : decide (0 < xv8) = false := decide_eq_false cv17
           clear cv17
           have hq1 := Aside0.mk True.intro
           rotate_left
           rw [if_neg cv15] at H
           have c33b0 : (tv21 == 0) = false := beq_eq_false_iff_ne.mpr cv15
           have c33b1 : (tv21 != 0) = true := bne_iff_ne.mpr cv15
           have hq1 := Aside0.mk True.intro
           rotate_left
           replace cv14 := Bool.eq_false_iff.mpr cv14
           subst cv14
           have Hv1 : (index_Sound.l1 kv2 l0 false xv4 tv12 tv20 xv2 (xv2.length : Int) (wrap64 (xv8 + 1))) = some r := by rw [if_neg (show ¬ (false = true) by decide)] at H; exact H
           clear H
           have H := Hv1
           clear Hv1
           have hq1 := Aside0.mk True.intro
           rotate_left
           · rw [if_neg cv13] at H
             exact absurd H (by simp)
           · rw [if_neg cv12] at H
             exact absurd H (by simp)
           · rw [if_neg cv11] at H
             have c27b0 : decide (xv8 < (xv2.length : Int)) = false := decide_eq_false cv11
             clear cv11
             have H' := Aside0.mk H
             clear H
             go_wp2
             go_roundg kv2
             case measure => have := HJv1.out; have := HKv1.out; have := HJv2.out; have := HKv2.out; omega
             case rel => exact ⟨(tv12), (xv6), (wrap64 (xv4 - 1)), (by first | rfl | (simp; done) | (simp [*]; done)), (by first | rfl | (simp; done) | (simp [*]; done)), H', ⟨by have := HJv1.out; have := HKv1.out; have := HJv2.out; have := HKv2.out; omega⟩, ⟨by (with_reducible repeat (first | apply Kd.R_alloc | apply Kd.R_drewN | apply Kd.R_drew)); exact Kd.R_mono HO_11.out (fun _ hk => hk.2)⟩, ⟨by (with_reducible repeat (first | apply Kd.R_alloc | apply Kd.R_drewN | apply Kd.R_drew)); exact Kd.R_mono HO_172004.out (fun _ hk => hk.1)⟩, ⟨by (with_reducible repeat (first | refine blk_drewN ?_ _ | refine blk_drew ?_ | refine blk_alloc ?_ _)); exact BKv1.out⟩, ⟨by repeat (first | (with_reducible first | exact HB.out | apply below_alloc | apply pw_below_drewN | apply below_drew1 | refine below_set ?_ GEv1.out) | exact HB.out)⟩⟩
           all_goals first
             | (clear hq0
                have H' := Aside0.mk H
                clear H
                have pz1 : 0 ≤ (xv8 : Int) := of_decide_eq_true (by first | (with_reducible assumption) | assumption)
                have qz1 : xv8 < (xv2.length : Int) := of_decide_eq_true (by first | (with_reducible assumption) | assumption)
                obtain ⟨adz1, ez1, hxz1⟩ := Kd.at_int (Kd.R_reads' HO_69.out).2.2 xv8 pz1 qz1
                cases ez1
                replace pz1 := eq_true pz1
                replace qz1 := eq_true qz1
                go_wp2_with (first | ((with_reducible refine gate_callee (f := 21) rfl ?_); refine goesL_ (some 79) rfl rfl Try.func21 (by kernel_rfl) rfl #[.slice A0 l0.length c0, .int .i64 (rd xv2 xv8)] rfl qm_ ?_; (with_reducible refine (node_Read.calls _ _ l0 (rd xv2 xv8) tv14 tv15 tv16 tv17 tv18 tv19 _ ?side1 ?side2 Av10.out).mono ?_); (case side1 => repeat (first | exact (Kd.C_below HR0.out HB.out) | (with_reducible refine Kd.C_alloc ?_ _) | (with_reducible refine Kd.C_drewN ?_ _) | (with_reducible refine Kd.C_drew ?_))); (case side2 => exact HC0.out); rintro e wz1 ⟨vvvvz1, rfl, hov1, hb⟩; refine ⟨_, rfl, ?_⟩; have n0_ := Aside0.mk (Kd.R_elder' (qr_ HO_11.out) (Kd.R_base hov1) hb); have n1_ := Aside0.mk (Kd.R_elder' (qr_ HO_69.out) (Kd.R_base hov1) hb); have n2_ := Aside0.mk (Kd.R_elder' (qr_ HO_172004.out) (Kd.R_base hov1) hb); have n3_ := Aside0.mk (Kd.R_lower (Kd.R_new' (Kd.R_new' (Kd.R_new' hov1 (Kd.R_lt (qr_ HO_11.out))) (Kd.R_lt (qr_ HO_69.out))) (Kd.R_lt (qr_ HO_172004.out))) (below_size (qg1_ GEv1.out))); have n4_ := Aside0.mk (blk_below (g := gbv1) (o := .cells #[.int .i64 tv4, .int .i64 tv5, .int .i64 tv6, .int .i64 tv7, .slice Aov1 tv8.length cov1] 24 (0, 0)) (qb_ BKv1.out) hb); have n5_ := Aside0.mk (below_step (qg1_ GEv1.out) hb); clear HO_11; clear HO_69; clear HO_172004; clear BKv1; clear HB; have HO_11 := n0_; have HO_69 := n1_; have HO_172004 := n2_; have HOz1 := n3_; have BKv1 := n4_; have HB := n5_; clear n0_ n1_ n2_ n3_ n4_ n5_; (try clear hb); (try clear hbv1); (try clear hk); (try clear hi); (try clear hov1)) | ((with_reducible refine gate_dst (N := 15) rfl ?_); refine box_event ?hg (N := 15) ?hd (cs := #[.int .i64 0, .int .i64 0, .int .i64 0, .int .i64 0, .slice none 0 0]) (t := 24) ?hr ?_; (case hd => rfl); (case hg => rfl); (case hr => first | (go_simp; done) | (go_simp; rfl)); intro gbz1 hg wz2 hbox hb; have n0_ := Aside0.mk (Kd.R_below (qr_ HO_11.out) hb); have n1_ := Aside0.mk (Kd.R_below (qr_ HO_69.out) hb); have n2_ := Aside0.mk (Kd.R_below (qr_ HO_172004.out) hb); have n3_ := Aside0.mk (Kd.R_below (qr_ HOz1.out) hb); have n4_ := Aside0.mk (blk_below (g := gbv1) (o := .cells #[.int .i64 tv4, .int .i64 tv5, .int .i64 tv6, .int .i64 tv7, .slice Aov1 tv8.length cov1] 24 (0, 0)) (qb_ BKv1.out) hb); have n5_ := Aside0.mk (below_step (qg1_ GEv1.out) hb); have n6_ := Aside0.mk (hbox); have n7_ := Aside0.mk ((by rw [hg]; exact (below_size (qg1_ GEv1.out)) : w.heap.size ≤ gbz1)); have n8_ := Aside0.mk ((by rw [hg]; exact (below_size (qg1_ GEv1.out)) : w.heap.size ≤ gbz1)); have n9_ := Aside0.mk ((by rw [hg]; exact Nat.ne_of_lt (blk_lt (g := gbv1) (o := .cells #[.int .i64 tv4, .int .i64 tv5, .int .i64 tv6, .int .i64 tv7, .slice Aov1 tv8.length cov1] 24 (0, 0)) (qb_ BKv1.out)) : gbv1 ≠ gbz1)); have n10_ := Aside0.mk ((by rw [hg]; exact Nat.ne_of_gt (blk_lt (g := gbv1) (o := .cells #[.int .i64 tv4, .int .i64 tv5, .int .i64 tv6, .int .i64 tv7, .slice Aov1 tv8.length cov1] 24 (0, 0)) (qb_ BKv1.out)) : gbz1 ≠ gbv1)); clear HO_11; clear HO_69; clear HO_172004; clear HOz1; clear BKv1; clear HB; have HO_11 := n0_; have HO_69 := n1_; have HO_172004 := n2_; have HOz1 := n3_; have BKv1 := n4_; have HB := n5_; have BKz1 := n6_; have GWz1 := n7_; have GEz1 := n8_; have NBz1 := n9_; have NBz2 := n10_; clear n0_ n1_ n2_ n3_ n4_ n5_ n6_ n7_ n8_ n9_ n10_; clear hb hbox hg; have hnbz1 := NBz2.out; have hncz1 := NBz1.out; have hczz1 : wz2.cell? ⟨gbz1, 0, none⟩ = some (.int .i64 0) := (blk_cell BKz1.out 0).trans rfl; have hczz2 : wz2.cell? ⟨gbz1, 1, none⟩ = some (.int .i64 0) := (blk_cell BKz1.out 1).trans rfl; have hczz3 : wz2.cell? ⟨gbz1, 2, none⟩ = some (.int .i64 0) := (blk_cell BKz1.out 2).trans rfl; have hczz4 : wz2.cell? ⟨gbz1, 3, none⟩ = some (.int .i64 0) := (blk_cell BKz1.out 3).trans rfl; have hczz5 : wz2.cell? ⟨gbz1, 4, none⟩ = some (.slice none 0 0) := (blk_cell BKz1.out 4).trans rfl; have hfzz1 := blk_frozen BKz1.out 0; have hfzz2 := blk_frozen BKz1.out 1; have hfzz3 := blk_frozen BKz1.out 2; have hfzz4 := blk_frozen BKz1.out 3; have hfzz5 := blk_frozen BKz1.out 4; obtain ⟨Aoz1, coz1, eoz1⟩ := Kd.R_slice HOz1.out; subst eoz1) | ((with_reducible refine gate_callee (f := 22) rfl ?_); refine goesL_ (some 85) rfl rfl Try.func22 (by kernel_rfl) rfl #[.slice A0 l0.length c0, .int .i64 (rd xv2 xv8)] rfl qm_ ?_; (with_reducible refine (arena_Low.calls _ _ l0 (rd xv2 xv8) tv20 tv21 _ ?side1 ?side2 Av12.out).mono ?_); (case side1 => exact Kd.C_below HR0.out (qg2_ GEv1.out GEz1.out)); (case side2 => exact HC0.out); rintro e wz3 ⟨rfl, hb⟩; refine ⟨_, rfl, ?_⟩; have n0_ := Aside0.mk (Kd.R_below (by (with_reducible repeat (first | apply Kd.R_alloc | apply Kd.R_drewN | apply Kd.R_drew)); exact (Kd.R_mono (Kd.R_far (p := ⟨gbz1, 4, none⟩) (Kd.R_far (p := ⟨gbz1, 3, none⟩) (Kd.R_far (p := ⟨gbz1, 2, none⟩) (Kd.R_far (p := ⟨gbz1, 1, none⟩) (Kd.R_far (p := ⟨gbz1, 0, none⟩) (Kd.R_types HO_11.out BKz1.out (by decide)) (fun _ hk => hk.2) (.int .i64 tv14)) (fun _ hk => hk.2) (.int .i64 tv15)) (fun _ hk => hk.2) (.int .i64 tv16)) (fun _ hk => hk.2) (.int .i64 tv17)) (fun _ hk => hk.2) (.slice Aoz1 tv18.length coz1)) (fun _ h_ => h_.1))) hb); have n1_ := Aside0.mk (Kd.R_below (by (with_reducible repeat (first | apply Kd.R_alloc | apply Kd.R_drewN | apply Kd.R_drew)); exact (Kd.R_mono (Kd.R_far (p := ⟨gbz1, 4, none⟩) (Kd.R_far (p := ⟨gbz1, 3, none⟩) (Kd.R_far (p := ⟨gbz1, 2, none⟩) (Kd.R_far (p := ⟨gbz1, 1, none⟩) (Kd.R_far (p := ⟨gbz1, 0, none⟩) (Kd.R_types HO_69.out BKz1.out (by decide)) (fun _ hk => hk.2) (.int .i64 tv14)) (fun _ hk => hk.2) (.int .i64 tv15)) (fun _ hk => hk.2) (.int .i64 tv16)) (fun _ hk => hk.2) (.int .i64 tv17)) (fun _ hk => hk.2) (.slice Aoz1 tv18.length coz1)) (fun _ h_ => h_.1))) hb); have n2_ := Aside0.mk (Kd.R_below (by (with_reducible repeat (first | apply Kd.R_alloc | apply Kd.R_drewN | apply Kd.R_drew)); exact (Kd.R_mono (Kd.R_far (p := ⟨gbz1, 4, none⟩) (Kd.R_far (p := ⟨gbz1, 3, none⟩) (Kd.R_far (p := ⟨gbz1, 2, none⟩) (Kd.R_far (p := ⟨gbz1, 1, none⟩) (Kd.R_far (p := ⟨gbz1, 0, none⟩) (Kd.R_types HO_172004.out BKz1.out (by decide)) (fun _ hk => hk.2) (.int .i64 tv14)) (fun _ hk => hk.2) (.int .i64 tv15)) (fun _ hk => hk.2) (.int .i64 tv16)) (fun _ hk => hk.2) (.int .i64 tv17)) (fun _ hk => hk.2) (.slice Aoz1 tv18.length coz1)) (fun _ h_ => h_.1))) hb); have n3_ := Aside0.mk (Kd.R_below (by (with_reducible repeat (first | apply Kd.R_alloc | apply Kd.R_drewN | apply Kd.R_drew)); exact (Kd.R_mono (Kd.R_far (p := ⟨gbz1, 4, none⟩) (Kd.R_far (p := ⟨gbz1, 3, none⟩) (Kd.R_far (p := ⟨gbz1, 2, none⟩) (Kd.R_far (p := ⟨gbz1, 1, none⟩) (Kd.R_far (p := ⟨gbz1, 0, none⟩) (Kd.R_types HOz1.out BKz1.out (by decide)) (fun _ hk => hk.2) (.int .i64 tv14)) (fun _ hk => hk.2) (.int .i64 tv15)) (fun _ hk => hk.2) (.int .i64 tv16)) (fun _ hk => hk.2) (.int .i64 tv17)) (fun _ hk => hk.2) (.slice Aoz1 tv18.length coz1)) (fun _ h_ => h_.1))) hb); have n4_ := Aside0.mk (blk_below (g := gbv1) (o := .cells #[.int .i64 tv4, .int .i64 tv5, .int .i64 tv6, .int .i64 tv7, .slice Aov1 tv8.length cov1] 24 (0, 0)) (by (with_reducible repeat (first | refine blk_drewN ?_ _ | refine blk_drew ?_ | refine blk_alloc ?_ _)); refine blk_far ?_ NBz1.out _; (with_reducible repeat (first | refine blk_drewN ?_ _ | refine blk_drew ?_ | refine blk_alloc ?_ _)); refine blk_far ?_ NBz1.out _; (with_reducible repeat (first | refine blk_drewN ?_ _ | refine blk_drew ?_ | refine blk_alloc ?_ _)); refine blk_far ?_ NBz1.out _; (with_reducible repeat (first | refine blk_drewN ?_ _ | refine blk_drew ?_ | refine blk_alloc ?_ _)); refine blk_far ?_ NBz1.out _; (with_reducible repeat (first | refine blk_drewN ?_ _ | refine blk_drew ?_ | refine blk_alloc ?_ _)); refine blk_far ?_ NBz1.out _; (with_reducible repeat (first | refine blk_drewN ?_ _ | refine blk_drew ?_ | refine blk_alloc ?_ _)); exact BKv1.out) hb); have n5_ := Aside0.mk (blk_below (g := gbz1) (o := .cells #[.int .i64 tv14, .int .i64 tv15, .int .i64 tv16, .int .i64 tv17, .slice Aoz1 tv18.length coz1] 24 (0, 0)) (by (with_reducible repeat (first | refine blk_drewN ?_ _ | refine blk_drew ?_ | refine blk_alloc ?_ _)); refine blk_put (cs := #[.int .i64 tv14, .int .i64 tv15, .int .i64 tv16, .int .i64 tv17, .slice none 0 0]) ?_ 4 _ rfl; (with_reducible repeat (first | refine blk_drewN ?_ _ | refine blk_drew ?_ | refine blk_alloc ?_ _)); refine blk_put (cs := #[.int .i64 tv14, .int .i64 tv15, .int .i64 tv16, .int .i64 0, .slice none 0 0]) ?_ 3 _ rfl; (with_reducible repeat (first | refine blk_drewN ?_ _ | refine blk_drew ?_ | refine blk_alloc ?_ _)); refine blk_put (cs := #[.int .i64 tv14, .int .i64 tv15, .int .i64 0, .int .i64 0, .slice none 0 0]) ?_ 2 _ rfl; (with_reducible repeat (first | refine blk_drewN ?_ _ | refine blk_drew ?_ | refine blk_alloc ?_ _)); refine blk_put (cs := #[.int .i64 tv14, .int .i64 0, .int .i64 0, .int .i64 0, .slice none 0 0]) ?_ 1 _ rfl; (with_reducible repeat (first | refine blk_drewN ?_ _ | refine blk_drew ?_ | refine blk_alloc ?_ _)); refine blk_put (cs := #[.int .i64 0, .int .i64 0, .int .i64 0, .int .i64 0, .slice none 0 0]) ?_ 0 _ rfl; (with_reducible repeat (first | refine blk_drewN ?_ _ | refine blk_drew ?_ | refine blk_alloc ?_ _)); exact BKz1.out) hb); have n6_ := Aside0.mk (below_step (qg2_ GEv1.out GEz1.out) hb); clear HO_11; clear HO_69; clear HO_172004; clear HOz1; clear BKv1; clear BKz1; clear HB; have HO_11 := n0_; have HO_69 := n1_; have HO_172004 := n2_; have HOz1 := n3_; have BKv1 := n4_; have BKz1 := n5_; have HB := n6_; clear n0_ n1_ n2_ n3_ n4_ n5_ n6_; (try clear hb); (try clear hbv1); (try clear hk); (try clear hi); have hczz6 : wz3.cell? ⟨gbz1, 0, none⟩ = some (.int .i64 tv14) := (blk_cell BKz1.out 0).trans rfl; have hczz7 : wz3.cell? ⟨gbz1, 1, none⟩ = some (.int .i64 tv15) := (blk_cell BKz1.out 1).trans rfl; have hczz8 : wz3.cell? ⟨gbz1, 2, none⟩ = some (.int .i64 tv16) := (blk_cell BKz1.out 2).trans rfl; have hczz9 : wz3.cell? ⟨gbz1, 3, none⟩ = some (.int .i64 tv17) := (blk_cell BKz1.out 3).trans rfl; have hczz10 : wz3.cell? ⟨gbz1, 4, none⟩ = some (.slice Aoz1 tv18.length coz1) := (blk_cell BKz1.out 4).trans rfl; have hfzz6 := blk_frozen BKz1.out 0; have hfzz7 := blk_frozen BKz1.out 1; have hfzz8 := blk_frozen BKz1.out 2; have hfzz9 := blk_frozen BKz1.out 3; have hfzz10 := blk_frozen BKz1.out 4))
                go_roundg kv2
                case measure => have := HJv1.out; have := HKv1.out; have := HJv2.out; have := HKv2.out; omega
                case rel => exact ⟨(false), (tv20), (wrap64 (xv8 + 1)), (by first | rfl | (simp; done) | (simp [*]; done)), (by first | rfl | (simp; done) | (simp [*]; done)), (by first | rfl | (simp; done) | (simp [*]; done)), H', ⟨by have := HJv1.out; have := HKv1.out; have := HJv2.out; have := HKv2.out; omega⟩, ⟨by (with_reducible repeat (first | apply Kd.R_alloc | apply Kd.R_drewN | apply Kd.R_drew)); exact Kd.R_mono HO_11.out (fun _ hk => ⟨hk.1.1, hk.1.2⟩)⟩, ⟨by (with_reducible repeat (first | apply Kd.R_alloc | apply Kd.R_drewN | apply Kd.R_drew)); exact Kd.R_mono HO_69.out (fun _ hk => ⟨hk.1.1, hk.1.2⟩)⟩, ⟨by (with_reducible repeat (first | apply Kd.R_alloc | apply Kd.R_drewN | apply Kd.R_drew)); exact Kd.R_mono HO_172004.out (fun _ hk => ⟨hk.1.1, hk.1.2⟩)⟩, ⟨by (with_reducible repeat (first | refine blk_drewN ?_ _ | refine blk_drew ?_ | refine blk_alloc ?_ _)); exact BKv1.out⟩, ⟨by repeat (first | (with_reducible first | exact HB.out | apply below_alloc | apply pw_below_drewN | apply below_drew1 | refine below_set ?_ GEv1.out | refine below_set ?_ GEz1.out) | exact HB.out)⟩⟩)
             | (clear hq1
                have H' := Aside0.mk H
                clear H
                have pz1 : 0 ≤ (xv8 : Int) := of_decide_eq_true (by first | (with_reducible assumption) | assumption)
                have qz1 : xv8 < (xv2.length : Int) := of_decide_eq_true (by first | (with_reducible assumption) | assumption)
                obtain ⟨adz1, ez1, hxz1⟩ := Kd.at_int (Kd.R_reads' HO_69.out).2.2 xv8 pz1 qz1
                cases ez1
                replace pz1 := eq_true pz1
                replace qz1 := eq_true qz1
                go_wp2_with (first | ((with_reducible refine gate_callee (f := 21) rfl ?_); refine goesL_ (some 79) rfl rfl Try.func21 (by kernel_rfl) rfl #[.slice A0 l0.length c0, .int .i64 (rd xv2 xv8)] rfl qm_ ?_; (with_reducible refine (node_Read.calls _ _ l0 (rd xv2 xv8) tv14 tv15 tv16 tv17 tv18 tv19 _ ?side1 ?side2 Av10.out).mono ?_); (case side1 => repeat (first | exact (Kd.C_below HR0.out HB.out) | (with_reducible refine Kd.C_alloc ?_ _) | (with_reducible refine Kd.C_drewN ?_ _) | (with_reducible refine Kd.C_drew ?_))); (case side2 => exact HC0.out); rintro e wz1 ⟨vvvvz1, rfl, hov1, hb⟩; refine ⟨_, rfl, ?_⟩; have n0_ := Aside0.mk (Kd.R_elder' (qr_ HO_11.out) (Kd.R_base hov1) hb); have n1_ := Aside0.mk (Kd.R_elder' (qr_ HO_69.out) (Kd.R_base hov1) hb); have n2_ := Aside0.mk (Kd.R_elder' (qr_ HO_172004.out) (Kd.R_base hov1) hb); have n3_ := Aside0.mk (Kd.R_lower (Kd.R_new' (Kd.R_new' (Kd.R_new' hov1 (Kd.R_lt (qr_ HO_11.out))) (Kd.R_lt (qr_ HO_69.out))) (Kd.R_lt (qr_ HO_172004.out))) (below_size (qg1_ GEv1.out))); have n4_ := Aside0.mk (blk_below (g := gbv1) (o := .cells #[.int .i64 tv4, .int .i64 tv5, .int .i64 tv6, .int .i64 tv7, .slice Aov1 tv8.length cov1] 24 (0, 0)) (qb_ BKv1.out) hb); have n5_ := Aside0.mk (below_step (qg1_ GEv1.out) hb); clear HO_11; clear HO_69; clear HO_172004; clear BKv1; clear HB; have HO_11 := n0_; have HO_69 := n1_; have HO_172004 := n2_; have HOz1 := n3_; have BKv1 := n4_; have HB := n5_; clear n0_ n1_ n2_ n3_ n4_ n5_; (try clear hb); (try clear hbv1); (try clear hk); (try clear hi); (try clear hov1)) | ((with_reducible refine gate_dst (N := 15) rfl ?_); refine box_event ?hg (N := 15) ?hd (cs := #[.int .i64 0, .int .i64 0, .int .i64 0, .int .i64 0, .slice none 0 0]) (t := 24) ?hr ?_; (case hd => rfl); (case hg => rfl); (case hr => first | (go_simp; done) | (go_simp; rfl)); intro gbz1 hg wz2 hbox hb; have n0_ := Aside0.mk (Kd.R_below (qr_ HO_11.out) hb); have n1_ := Aside0.mk (Kd.R_below (qr_ HO_69.out) hb); have n2_ := Aside0.mk (Kd.R_below (qr_ HO_172004.out) hb); have n3_ := Aside0.mk (Kd.R_below (qr_ HOz1.out) hb); have n4_ := Aside0.mk (blk_below (g := gbv1) (o := .cells #[.int .i64 tv4, .int .i64 tv5, .int .i64 tv6, .int .i64 tv7, .slice Aov1 tv8.length cov1] 24 (0, 0)) (qb_ BKv1.out) hb); have n5_ := Aside0.mk (below_step (qg1_ GEv1.out) hb); have n6_ := Aside0.mk (hbox); have n7_ := Aside0.mk ((by rw [hg]; exact (below_size (qg1_ GEv1.out)) : w.heap.size ≤ gbz1)); have n8_ := Aside0.mk ((by rw [hg]; exact (below_size (qg1_ GEv1.out)) : w.heap.size ≤ gbz1)); have n9_ := Aside0.mk ((by rw [hg]; exact Nat.ne_of_lt (blk_lt (g := gbv1) (o := .cells #[.int .i64 tv4, .int .i64 tv5, .int .i64 tv6, .int .i64 tv7, .slice Aov1 tv8.length cov1] 24 (0, 0)) (qb_ BKv1.out)) : gbv1 ≠ gbz1)); have n10_ := Aside0.mk ((by rw [hg]; exact Nat.ne_of_gt (blk_lt (g := gbv1) (o := .cells #[.int .i64 tv4, .int .i64 tv5, .int .i64 tv6, .int .i64 tv7, .slice Aov1 tv8.length cov1] 24 (0, 0)) (qb_ BKv1.out)) : gbz1 ≠ gbv1)); clear HO_11; clear HO_69; clear HO_172004; clear HOz1; clear BKv1; clear HB; have HO_11 := n0_; have HO_69 := n1_; have HO_172004 := n2_; have HOz1 := n3_; have BKv1 := n4_; have HB := n5_; have BKz1 := n6_; have GWz1 := n7_; have GEz1 := n8_; have NBz1 := n9_; have NBz2 := n10_; clear n0_ n1_ n2_ n3_ n4_ n5_ n6_ n7_ n8_ n9_ n10_; clear hb hbox hg; have hnbz1 := NBz2.out; have hncz1 := NBz1.out; have hczz1 : wz2.cell? ⟨gbz1, 0, none⟩ = some (.int .i64 0) := (blk_cell BKz1.out 0).trans rfl; have hczz2 : wz2.cell? ⟨gbz1, 1, none⟩ = some (.int .i64 0) := (blk_cell BKz1.out 1).trans rfl; have hczz3 : wz2.cell? ⟨gbz1, 2, none⟩ = some (.int .i64 0) := (blk_cell BKz1.out 2).trans rfl; have hczz4 : wz2.cell? ⟨gbz1, 3, none⟩ = some (.int .i64 0) := (blk_cell BKz1.out 3).trans rfl; have hczz5 : wz2.cell? ⟨gbz1, 4, none⟩ = some (.slice none 0 0) := (blk_cell BKz1.out 4).trans rfl; have hfzz1 := blk_frozen BKz1.out 0; have hfzz2 := blk_frozen BKz1.out 1; have hfzz3 := blk_frozen BKz1.out 2; have hfzz4 := blk_frozen BKz1.out 3; have hfzz5 := blk_frozen BKz1.out 4; obtain ⟨Aoz1, coz1, eoz1⟩ := Kd.R_slice HOz1.out; subst eoz1) | ((with_reducible refine gate_callee (f := 22) rfl ?_); refine goesL_ (some 85) rfl rfl Try.func22 (by kernel_rfl) rfl #[.slice A0 l0.length c0, .int .i64 (rd xv2 xv8)] rfl qm_ ?_; (with_reducible refine (arena_Low.calls _ _ l0 (rd xv2 xv8) tv20 tv21 _ ?side1 ?side2 Av12.out).mono ?_); (case side1 => exact Kd.C_below HR0.out (qg2_ GEv1.out GEz1.out)); (case side2 => exact HC0.out); rintro e wz3 ⟨rfl, hb⟩; refine ⟨_, rfl, ?_⟩; have n0_ := Aside0.mk (Kd.R_below (by (with_reducible repeat (first | apply Kd.R_alloc | apply Kd.R_drewN | apply Kd.R_drew)); exact (Kd.R_mono (Kd.R_far (p := ⟨gbz1, 4, none⟩) (Kd.R_far (p := ⟨gbz1, 3, none⟩) (Kd.R_far (p := ⟨gbz1, 2, none⟩) (Kd.R_far (p := ⟨gbz1, 1, none⟩) (Kd.R_far (p := ⟨gbz1, 0, none⟩) (Kd.R_types HO_11.out BKz1.out (by decide)) (fun _ hk => hk.2) (.int .i64 tv14)) (fun _ hk => hk.2) (.int .i64 tv15)) (fun _ hk => hk.2) (.int .i64 tv16)) (fun _ hk => hk.2) (.int .i64 tv17)) (fun _ hk => hk.2) (.slice Aoz1 tv18.length coz1)) (fun _ h_ => h_.1))) hb); have n1_ := Aside0.mk (Kd.R_below (by (with_reducible repeat (first | apply Kd.R_alloc | apply Kd.R_drewN | apply Kd.R_drew)); exact (Kd.R_mono (Kd.R_far (p := ⟨gbz1, 4, none⟩) (Kd.R_far (p := ⟨gbz1, 3, none⟩) (Kd.R_far (p := ⟨gbz1, 2, none⟩) (Kd.R_far (p := ⟨gbz1, 1, none⟩) (Kd.R_far (p := ⟨gbz1, 0, none⟩) (Kd.R_types HO_69.out BKz1.out (by decide)) (fun _ hk => hk.2) (.int .i64 tv14)) (fun _ hk => hk.2) (.int .i64 tv15)) (fun _ hk => hk.2) (.int .i64 tv16)) (fun _ hk => hk.2) (.int .i64 tv17)) (fun _ hk => hk.2) (.slice Aoz1 tv18.length coz1)) (fun _ h_ => h_.1))) hb); have n2_ := Aside0.mk (Kd.R_below (by (with_reducible repeat (first | apply Kd.R_alloc | apply Kd.R_drewN | apply Kd.R_drew)); exact (Kd.R_mono (Kd.R_far (p := ⟨gbz1, 4, none⟩) (Kd.R_far (p := ⟨gbz1, 3, none⟩) (Kd.R_far (p := ⟨gbz1, 2, none⟩) (Kd.R_far (p := ⟨gbz1, 1, none⟩) (Kd.R_far (p := ⟨gbz1, 0, none⟩) (Kd.R_types HO_172004.out BKz1.out (by decide)) (fun _ hk => hk.2) (.int .i64 tv14)) (fun _ hk => hk.2) (.int .i64 tv15)) (fun _ hk => hk.2) (.int .i64 tv16)) (fun _ hk => hk.2) (.int .i64 tv17)) (fun _ hk => hk.2) (.slice Aoz1 tv18.length coz1)) (fun _ h_ => h_.1))) hb); have n3_ := Aside0.mk (Kd.R_below (by (with_reducible repeat (first | apply Kd.R_alloc | apply Kd.R_drewN | apply Kd.R_drew)); exact (Kd.R_mono (Kd.R_far (p := ⟨gbz1, 4, none⟩) (Kd.R_far (p := ⟨gbz1, 3, none⟩) (Kd.R_far (p := ⟨gbz1, 2, none⟩) (Kd.R_far (p := ⟨gbz1, 1, none⟩) (Kd.R_far (p := ⟨gbz1, 0, none⟩) (Kd.R_types HOz1.out BKz1.out (by decide)) (fun _ hk => hk.2) (.int .i64 tv14)) (fun _ hk => hk.2) (.int .i64 tv15)) (fun _ hk => hk.2) (.int .i64 tv16)) (fun _ hk => hk.2) (.int .i64 tv17)) (fun _ hk => hk.2) (.slice Aoz1 tv18.length coz1)) (fun _ h_ => h_.1))) hb); have n4_ := Aside0.mk (blk_below (g := gbv1) (o := .cells #[.int .i64 tv4, .int .i64 tv5, .int .i64 tv6, .int .i64 tv7, .slice Aov1 tv8.length cov1] 24 (0, 0)) (by (with_reducible repeat (first | refine blk_drewN ?_ _ | refine blk_drew ?_ | refine blk_alloc ?_ _)); refine blk_far ?_ NBz1.out _; (with_reducible repeat (first | refine blk_drewN ?_ _ | refine blk_drew ?_ | refine blk_alloc ?_ _)); refine blk_far ?_ NBz1.out _; (with_reducible repeat (first | refine blk_drewN ?_ _ | refine blk_drew ?_ | refine blk_alloc ?_ _)); refine blk_far ?_ NBz1.out _; (with_reducible repeat (first | refine blk_drewN ?_ _ | refine blk_drew ?_ | refine blk_alloc ?_ _)); refine blk_far ?_ NBz1.out _; (with_reducible repeat (first | refine blk_drewN ?_ _ | refine blk_drew ?_ | refine blk_alloc ?_ _)); refine blk_far ?_ NBz1.out _; (with_reducible repeat (first | refine blk_drewN ?_ _ | refine blk_drew ?_ | refine blk_alloc ?_ _)); exact BKv1.out) hb); have n5_ := Aside0.mk (blk_below (g := gbz1) (o := .cells #[.int .i64 tv14, .int .i64 tv15, .int .i64 tv16, .int .i64 tv17, .slice Aoz1 tv18.length coz1] 24 (0, 0)) (by (with_reducible repeat (first | refine blk_drewN ?_ _ | refine blk_drew ?_ | refine blk_alloc ?_ _)); refine blk_put (cs := #[.int .i64 tv14, .int .i64 tv15, .int .i64 tv16, .int .i64 tv17, .slice none 0 0]) ?_ 4 _ rfl; (with_reducible repeat (first | refine blk_drewN ?_ _ | refine blk_drew ?_ | refine blk_alloc ?_ _)); refine blk_put (cs := #[.int .i64 tv14, .int .i64 tv15, .int .i64 tv16, .int .i64 0, .slice none 0 0]) ?_ 3 _ rfl; (with_reducible repeat (first | refine blk_drewN ?_ _ | refine blk_drew ?_ | refine blk_alloc ?_ _)); refine blk_put (cs := #[.int .i64 tv14, .int .i64 tv15, .int .i64 0, .int .i64 0, .slice none 0 0]) ?_ 2 _ rfl; (with_reducible repeat (first | refine blk_drewN ?_ _ | refine blk_drew ?_ | refine blk_alloc ?_ _)); refine blk_put (cs := #[.int .i64 tv14, .int .i64 0, .int .i64 0, .int .i64 0, .slice none 0 0]) ?_ 1 _ rfl; (with_reducible repeat (first | refine blk_drewN ?_ _ | refine blk_drew ?_ | refine blk_alloc ?_ _)); refine blk_put (cs := #[.int .i64 0, .int .i64 0, .int .i64 0, .int .i64 0, .slice none 0 0]) ?_ 0 _ rfl; (with_reducible repeat (first | refine blk_drewN ?_ _ | refine blk_drew ?_ | refine blk_alloc ?_ _)); exact BKz1.out) hb); have n6_ := Aside0.mk (below_step (qg2_ GEv1.out GEz1.out) hb); clear HO_11; clear HO_69; clear HO_172004; clear HOz1; clear BKv1; clear BKz1; clear HB; have HO_11 := n0_; have HO_69 := n1_; have HO_172004 := n2_; have HOz1 := n3_; have BKv1 := n4_; have BKz1 := n5_; have HB := n6_; clear n0_ n1_ n2_ n3_ n4_ n5_ n6_; (try clear hb); (try clear hbv1); (try clear hk); (try clear hi)))
                go_roundg kv2
                case measure => have := HJv1.out; have := HKv1.out; have := HJv2.out; have := HKv2.out; omega
                case rel => exact ⟨(false), (tv20), (wrap64 (xv8 + 1)), (by first | rfl | (simp; done) | (simp [*]; done)), (by first | rfl | (simp; done) | (simp [*]; done)), (by first | rfl | (simp; done) | (simp [*]; done)), H', ⟨by have := HJv1.out; have := HKv1.out; have := HJv2.out; have := HKv2.out; omega⟩, ⟨by (with_reducible repeat (first | apply Kd.R_alloc | apply Kd.R_drewN | apply Kd.R_drew)); exact Kd.R_mono HO_11.out (fun _ hk => ⟨hk.1.1, hk.1.2⟩)⟩, ⟨by (with_reducible repeat (first | apply Kd.R_alloc | apply Kd.R_drewN | apply Kd.R_drew)); exact Kd.R_mono HO_69.out (fun _ hk => ⟨hk.1.1, hk.1.2⟩)⟩, ⟨by (with_reducible repeat (first | apply Kd.R_alloc | apply Kd.R_drewN | apply Kd.R_drew)); exact Kd.R_mono HO_172004.out (fun _ hk => ⟨hk.1.1, hk.1.2⟩)⟩, ⟨by (with_reducible repeat (first | refine blk_drewN ?_ _ | refine blk_drew ?_ | refine blk_alloc ?_ _)); exact BKv1.out⟩, ⟨by repeat (first | (with_reducible first | exact HB.out | apply below_alloc | apply pw_below_drewN | apply below_drew1 | refine below_set ?_ GEv1.out | refine below_set ?_ GEz1.out) | exact HB.out)⟩⟩)
       replace cv8 := Bool.eq_false_iff.mpr cv8
       subst cv8
       have Hv1 : (some false) = some r := by rw [if_neg (show ¬ (false = true) by decide)] at H; exact H
       clear H
       have H := Hv1
       clear Hv1
       obtain rfl := Option.some.inj H
       obtain ⟨Aov2, cov2, eov2⟩ := Kd.R_slice HO_8.out
       subst eov2
       focus go_wp2_with (first | ((with_reducible refine gate_callee (f := 60) rfl ?_); refine goesL_ (some 64) rfl rfl Try.func60 (by kernel_rfl) rfl #[.slice A0 l0.length c0, .slice Aov2 xv2.length cov2, .int .i64 xv4] rfl qm_ ?_; (with_reducible refine (index_below.calls kjv2 _ _ l0 _ _ xv2 xv4 tv12 false _ ?side1 ?side2 ?side3 ?side4 Av8.out).mono ?_); (case side1 => repeat (first | exact (Kd.C_below HR0.out HB.out) | (with_reducible refine Kd.C_alloc ?_ _) | (with_reducible refine Kd.C_drewN ?_ _) | (with_reducible refine Kd.C_drew ?_))); (case side2 => exact HC0.out); (case side3 => repeat (first | exact (Kd.R_reads' HO_8.out).2.2 | (with_reducible refine Kd.C_alloc ?_ _) | (with_reducible refine Kd.C_drewN ?_ _) | (with_reducible refine Kd.C_drew ?_))); (case side4 => exact (Kd.R_reads' HO_8.out).2.1); rintro e wv6 ⟨vvvv1, rfl, hov1, hb⟩; refine ⟨_, rfl, ?_⟩; have n0_ := Aside0.mk (Kd.R_elder' (qr_ HO_8.out) (Kd.R_base hov1) hb); have n1_ := Aside0.mk (Kd.R_elder' (qr_ HO_172004.out) (Kd.R_base hov1) hb); have n2_ := Aside0.mk (Kd.R_lower (Kd.R_new' (Kd.R_new' hov1 (Kd.R_lt (qr_ HO_8.out))) (Kd.R_lt (qr_ HO_172004.out))) (below_size (qg1_ GEv1.out))); have n3_ := Aside0.mk (blk_below (g := gbv1) (o := .cells #[.int .i64 tv4, .int .i64 tv5, .int .i64 tv6, .int .i64 tv7, .slice Aov1 tv8.length cov1] 24 (0, 0)) (qb_ BKv1.out) hb); have n4_ := Aside0.mk (below_step (qg1_ GEv1.out) hb); clear HO_8; clear HO_172004; clear BKv1; clear HB; have HO_8 := n0_; have HO_172004 := n1_; have HOv3 := n2_; have BKv1 := n3_; have HB := n4_; clear n0_ n1_ n2_ n3_ n4_; (try clear hb); (try clear hbv1); (try clear hk); (try clear hi); (try clear hov1)))
       have hq0 := Aside0.mk True.intro
       rotate_left
       replace cv7 := Bool.eq_false_iff.mpr cv7
       subst cv7
       have Hv1 : (some xv3) = some r := by rw [if_neg (show ¬ (false = true) by decide)] at H; exact H
       clear H
       have H := Hv1
       clear Hv1
       obtain rfl := Option.some.inj H
       focus go_wp2
       have hq0 := Aside0.mk True.intro
       rotate_left
       all_goals first
         | (clear hq0
            go_ret
            exact ⟨qe_, by repeat (first | (with_reducible first | exact HB.out | apply below_alloc | apply pw_below_drewN | apply below_drew1 | refine below_set ?_ GEv1.out) | exact HB.out)⟩)
end
end Go.Proofs.Ytliaemoomhfcdaa.IS
