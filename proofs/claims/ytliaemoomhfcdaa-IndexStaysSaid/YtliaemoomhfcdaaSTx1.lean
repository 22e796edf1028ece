/- Written by this session's own program (hprint.py) with the help of the kit's print. Lean checks it. -/
import Derived.Test.YtliaemoomhfcdaaSTx0
import Derived.Test.YtliaemoomhfcdaaMD
import Derived.Test.YtliaemoomhfcdaaMA
namespace Go.Proofs.Ytliaemoomhfcdaa.ST
attribute [local go_sem] Go.Proofs.Ytliaemoomhfcdaa.le_flip
open Go.Proofs.Ytliaemoomhfcdaa.AW Go.Proofs.Ytliaemoomhfcdaa.ID   -- OPENED
open Go.RowKit Go.Proofs.YtliaemoomhfcdaaW.PrintWords Go.Proofs.YtliaemoomhfcdaaW.PrintLast Go.Proofs.YtliaemoomhfcdaaW.PrintMore
attribute [local go_sem] max2_int min2_int max_two min_two max_three min_three max_four min_four   -- for this text's walks alone
set_option linter.unusedVariables false
set_option linter.unusedSimpArgs false
noncomputable section

/-! ### lamplighterlaw15_IndexStays: function 4 -/
def lamplighterlaw15_IndexStays.j0 : Nat → List Int → Int → ByteArray → Int → Bool → Bool → Option (Bool)
  | 0, _, _, _, _, _, _ => none
  | k + 1, x0, x1, x2, x3, x9, x26 => if x26 = true then (some x9) else ((index_Find.f x0 x1 x2 x3).bind fun bt102 => (if bt102.2 = 0 then ((index_Down.f x0 bt102.1 x2 x3).bind fun bt104 => ((node_Read.f x0 bt102.1).bind fun bt106 => ((arena_Low.f x0 bt106.2.2.1).bind fun bt115 => (if x9 = true then (if bt104.2 = 0 then (if bt104.1 = bt102.1 then (if bt106.2.2.2.2.2 = 0 then (if bt106.1 = x3 then (if bt106.2.2.1 = 0 then (some true) else (if bt115.2 = 0 then (some (Op.bytesLess x2.toList bt115.1.toList)) else (none))) else (none)) else (none)) else (none)) else (none)) else (none))))) else (if x9 = true then (if bt102.2 = 90 then (some (bt102.1 == 0)) else (none)) else (none))))
def lamplighterlaw15_IndexStays.f (k : Nat) (l0 : List Int) (a1 : Int) (a2 : ByteArray) (a3 : Int) : Option (Bool) := (lamplighterlaw15_awake.f).bind fun t101 => (if (l0.length : Int) > 1000 then (lamplighterlaw15_IndexStays.j0 k l0 a1 a2 a3 t101 true) else (lamplighterlaw15_IndexStays.j0 k l0 a1 a2 a3 t101 (decide ((a2.size : Int) > 100))))
theorem lamplighterlaw15_IndexStays.mono_l : ∀ k, (∀ y0 y1 y2 y3 y4 y5, LeO (lamplighterlaw15_IndexStays.j0 k y0 y1 y2 y3 y4 y5) (lamplighterlaw15_IndexStays.j0 (k + 1) y0 y1 y2 y3 y4 y5))
  | 0 => fun _ _ _ _ _ _ r h => by simp [lamplighterlaw15_IndexStays.j0] at h
  | k + 1 => by
    have ih0 := lamplighterlaw15_IndexStays.mono_l k
    · intro y0 y1 y2 y3 y4 y5
      unfold lamplighterlaw15_IndexStays.j0
      repeat' first
      | (with_reducible exact ih0 _ _ _ _ _ _)
      | (with_reducible exact LeO.refl _)
      | (with_reducible exact LeO.none _)
      | (with_reducible refine LeO.ite ?_ ?_)
      | (with_reducible refine LeO.bind ?_ (fun _ => ?_))
      | exact ih0 _ _ _ _ _ _
      | exact LeO.none _
      | refine LeO.ite ?_ ?_
      | refine LeO.bind ?_ (fun _ => ?_)
theorem lamplighterlaw15_IndexStays.mono : ∀ a0 a1 a2 a3 k, LeO (lamplighterlaw15_IndexStays.f k a0 a1 a2 a3) (lamplighterlaw15_IndexStays.f (k + 1) a0 a1 a2 a3) := by
  intro a0 a1 a2 a3 k
  have ih0 := lamplighterlaw15_IndexStays.mono_l k
  unfold lamplighterlaw15_IndexStays.f
  repeat' first
      | (with_reducible exact ih0 _ _ _ _ _ _)
      | (with_reducible exact LeO.refl _)
      | (with_reducible exact LeO.none _)
      | (with_reducible refine LeO.ite ?_ ?_)
      | (with_reducible refine LeO.bind ?_ (fun _ => ?_))
      | exact ih0 _ _ _ _ _ _
      | exact LeO.none _
      | refine LeO.ite ?_ ?_
      | refine LeO.bind ?_ (fun _ => ?_)
set_option maxHeartbeats 8000000 in
set_option maxRecDepth 100000 in
theorem lamplighterlaw15_IndexStays.calls (k : Nat) (A0 : Option Addr) (c0 : Nat) (l0 : List Int) (a1 : Int) (a2 : ByteArray) (a3 : Int) (r : Bool) (w : World) (hr0 : Kd.C (Kd.int .i64) w A0 l0.length l0) (hc0 : l0.length ≤ c0) (h : lamplighterlaw15_IndexStays.f k l0 a1 a2 a3 = some r) :
    Calls Try.prog 4 #[.slice A0 l0.length c0, .int .i64 a1, .string a2, .int .i64 a3] w fun e w' => e = .returned (.bool r) ∧ Below w.heap.size w w' := by
  have hu24 := Try.underlying24
  have HR0 := Aside0.mk hr0
  have HC0 := Aside0.mk hc0
  clear hr0 hc0
  have HB := Aside0.mk (Below.refl w.heap.size w)
  have H : ((lamplighterlaw15_awake.f).bind fun t101 => (if (l0.length : Int) > 1000 then (lamplighterlaw15_IndexStays.j0 k l0 a1 a2 a3 t101 true) else (lamplighterlaw15_IndexStays.j0 k l0 a1 a2 a3 t101 (decide ((a2.size : Int) > 100))))) = some r := h
  clear h
  replace H := Option.bind_eq_some_iff.mp H
  obtain ⟨t101, A50, H⟩ := H
  replace H : (if (l0.length : Int) > 1000 then (lamplighterlaw15_IndexStays.j0 k l0 a1 a2 a3 t101 true) else (lamplighterlaw15_IndexStays.j0 k l0 a1 a2 a3 t101 (decide ((a2.size : Int) > 100)))) = some r := H
  have A5 := Aside0.mk A50
  clear A50
  have HC6 := Aside0.mk H
  clear H
  go_enter Try.func4, Try.ntmps4
  go_upto_region 2 with (first | ((with_reducible refine gate_callee (f := 14) rfl ?_); refine goesL_ (some 18) rfl rfl Try.func14 (by kernel_rfl) rfl #[] rfl (by (try simp only [List.map_toArray, List.map_cons, List.map_nil]); first | done | rfl | (simp only [List.length_drop, List.length_take]; rfl)) ?_; (with_reducible refine (lamplighterlaw15_awake.calls  t101 _ A5.out).mono ?_); rintro e w7 ⟨rfl, hb⟩; refine ⟨_, rfl, ?_⟩; have n0_ := Aside0.mk (below_step (by repeat (first | (with_reducible first | exact HB.out | apply below_alloc | apply pw_below_drewN | apply below_drew1) | exact HB.out)) hb); clear HB; have HB := n0_; clear n0_; (try clear hb); (try clear hb2); (try clear hk); (try clear hi)))
  (try simp only [Act.put, List.setIfInBounds_toArray, List.set_cons_zero, List.set_cons_succ])
  go_cut [26] (fun v26 wc => ∃ (kq : Nat) (x26_5 : Bool), v26 = .bool x26_5 ∧ Aside0 (lamplighterlaw15_IndexStays.j0 kq l0 a1 a2 a3 t101 x26_5 = some r) ∧ Aside0 (kq ≤ k) ∧ Aside0 (Below w.heap.size w wc))
  case first =>
    have H := HC6.out
    clear HC6
    by_cases c8 : (l0.length : Int) > 1000
    · rw [if_pos c8] at H
      have c8b0 : decide (1000 < (l0.length : Int)) = true := decide_eq_true c8
      have c8b1 : decide (1000 < l0.length) = true := decide_eq_true (by omega)
      clear c8
      (first | rw [c8b0] | (simp only [i64_w, i32_w]; rw [c8b0]) | skip)
      have H' := Aside0.mk H
      clear H
      go_wp2
      go_meet
      case rel => exact ⟨_, (true), (by first | rfl | (simp; done) | (simp [*]; done)), H', ⟨by first | omega | exact Nat.le_refl _⟩, ⟨by repeat (first | (with_reducible first | exact HB.out | apply below_alloc | apply pw_below_drewN | apply below_drew1) | exact HB.out)⟩⟩
    · rw [if_neg c8] at H
      have c8b0 : decide (1000 < (l0.length : Int)) = false := decide_eq_false c8
      have c8b1 : decide (1000 < l0.length) = false := decide_eq_false (by omega)
      clear c8
      (first | rw [c8b0] | (simp only [i64_w, i32_w]; rw [c8b0]) | skip)
      have H' := Aside0.mk H
      clear H
      go_wp2
      go_meet
      case rel => exact ⟨_, (decide ((a2.size : Int) > 100)), (by first | rfl | (simp; done) | (simp [*]; done)), H', ⟨by first | omega | exact Nat.le_refl _⟩, ⟨by repeat (first | (with_reducible first | exact HB.out | apply below_alloc | apply pw_below_drewN | apply below_drew1) | exact HB.out)⟩⟩
  case rest =>
    clear HC6
    try clear c1
    try clear p2
    try clear c4
    try clear c8
    try clear c8b0
    try clear c8b1
    obtain ⟨kq, x26_5, rfl, HA, HJ5, HB⟩ := hcut
    cases kq with
    | zero => exact absurd HA.out (by simp [lamplighterlaw15_IndexStays.j0])
    | succ kj5 =>
      have H := HA.out
      clear HA
      simp only [lamplighterlaw15_IndexStays.j0] at H
      by_cases c9 : x26_5 = true
      · subst c9
        have H1 : (some t101) = some r := by rw [if_pos rfl] at H; exact H
        clear H
        have H := H1
        clear H1
        obtain rfl := Option.some.inj H
        go_wp2
        go_ret
        exact ⟨by first | rfl | (simp [errW_none, errW_some] <;> rfl) | (simp [*, errW_none, errW_some] <;> rfl), by repeat (first | (with_reducible first | exact HB.out | apply below_alloc | apply pw_below_drewN | apply below_drew1) | exact HB.out)⟩
      · replace c9 := Bool.eq_false_iff.mpr c9
        subst c9
        have H1 : ((index_Find.f l0 a1 a2 a3).bind fun bt102 => (if bt102.2 = 0 then ((index_Down.f l0 bt102.1 a2 a3).bind fun bt104 => ((node_Read.f l0 bt102.1).bind fun bt106 => ((arena_Low.f l0 bt106.2.2.1).bind fun bt115 => (if t101 = true then (if bt104.2 = 0 then (if bt104.1 = bt102.1 then (if bt106.2.2.2.2.2 = 0 then (if bt106.1 = a3 then (if bt106.2.2.1 = 0 then (some true) else (if bt115.2 = 0 then (some (Op.bytesLess a2.toList bt115.1.toList)) else (none))) else (none)) else (none)) else (none)) else (none)) else (none))))) else (if t101 = true then (if bt102.2 = 90 then (some (bt102.1 == 0)) else (none)) else (none)))) = some r := by rw [if_neg (show ¬ (false = true) by decide)] at H; exact H
        clear H
        have H := H1
        clear H1
        replace H := Option.bind_eq_some_iff.mp H
        obtain ⟨⟨t102, t103⟩, A100, H⟩ := H
        replace H : (if t103 = 0 then ((index_Down.f l0 t102 a2 a3).bind fun bt104 => ((node_Read.f l0 t102).bind fun bt106 => ((arena_Low.f l0 bt106.2.2.1).bind fun bt115 => (if t101 = true then (if bt104.2 = 0 then (if bt104.1 = t102 then (if bt106.2.2.2.2.2 = 0 then (if bt106.1 = a3 then (if bt106.2.2.1 = 0 then (some true) else (if bt115.2 = 0 then (some (Op.bytesLess a2.toList bt115.1.toList)) else (none))) else (none)) else (none)) else (none)) else (none)) else (none))))) else (if t101 = true then (if t103 = 90 then (some (t102 == 0)) else (none)) else (none))) = some r := H
        have A10 := Aside0.mk A100
        clear A100
        by_cases c11 : t103 = 0
        · rw [if_pos c11] at H
          have c11b0 : (t103 == 0) = true := beq_iff_eq.mpr c11
          have c11b1 : (t103 != 0) = false := bne_eq_false_iff_eq.mpr c11
          clear c11
          replace H := Option.bind_eq_some_iff.mp H
          obtain ⟨⟨t104, t105⟩, A120, H⟩ := H
          replace H : ((node_Read.f l0 t102).bind fun bt106 => ((arena_Low.f l0 bt106.2.2.1).bind fun bt115 => (if t101 = true then (if t105 = 0 then (if t104 = t102 then (if bt106.2.2.2.2.2 = 0 then (if bt106.1 = a3 then (if bt106.2.2.1 = 0 then (some true) else (if bt115.2 = 0 then (some (Op.bytesLess a2.toList bt115.1.toList)) else (none))) else (none)) else (none)) else (none)) else (none)) else (none)))) = some r := H
          have A12 := Aside0.mk A120
          clear A120
          replace H := Option.bind_eq_some_iff.mp H
          obtain ⟨⟨t106, t107, t108, t109, t110, t113⟩, A130, H⟩ := H
          replace H : ((arena_Low.f l0 t108).bind fun bt115 => (if t101 = true then (if t105 = 0 then (if t104 = t102 then (if t113 = 0 then (if t106 = a3 then (if t108 = 0 then (some true) else (if bt115.2 = 0 then (some (Op.bytesLess a2.toList bt115.1.toList)) else (none))) else (none)) else (none)) else (none)) else (none)) else (none))) = some r := H
          have A13 := Aside0.mk A130
          clear A130
          replace H := Option.bind_eq_some_iff.mp H
          obtain ⟨⟨t115, t116⟩, A140, H⟩ := H
          replace H : (if t101 = true then (if t105 = 0 then (if t104 = t102 then (if t113 = 0 then (if t106 = a3 then (if t108 = 0 then (some true) else (if t116 = 0 then (some (Op.bytesLess a2.toList t115.toList)) else (none))) else (none)) else (none)) else (none)) else (none)) else (none)) = some r := H
          have A14 := Aside0.mk A140
          clear A140
          by_cases c15 : t101 = true
          · subst c15
            have H1 : (if t105 = 0 then (if t104 = t102 then (if t113 = 0 then (if t106 = a3 then (if t108 = 0 then (some true) else (if t116 = 0 then (some (Op.bytesLess a2.toList t115.toList)) else (none))) else (none)) else (none)) else (none)) else (none)) = some r := by rw [if_pos rfl] at H; exact H
            clear H
            have H := H1
            clear H1
            by_cases c16 : t105 = 0
            · rw [if_pos c16] at H
              have c16b0 : (t105 == 0) = true := beq_iff_eq.mpr c16
              have c16b1 : (t105 != 0) = false := bne_eq_false_iff_eq.mpr c16
              clear c16
              by_cases c17 : t104 = t102
              · rw [if_pos c17] at H
                have c17b0 : (t104 == t102) = true := beq_iff_eq.mpr c17
                have c17b1 : (t104 != t102) = false := bne_eq_false_iff_eq.mpr c17
                clear c17
                by_cases c18 : t113 = 0
                · rw [if_pos c18] at H
                  have c18b0 : (t113 == 0) = true := beq_iff_eq.mpr c18
                  have c18b1 : (t113 != 0) = false := bne_eq_false_iff_eq.mpr c18
                  clear c18
                  by_cases c19 : t106 = a3
                  · rw [if_pos c19] at H
                    have c19b0 : (t106 == a3) = true := beq_iff_eq.mpr c19
                    have c19b1 : (t106 != a3) = false := bne_eq_false_iff_eq.mpr c19
                    clear c19
                    by_cases c20 : t108 = 0
                    · rw [if_pos c20] at H
                      have c20b0 : (t108 == 0) = true := beq_iff_eq.mpr c20
                      have c20b1 : (t108 != 0) = false := bne_eq_false_iff_eq.mpr c20
                      clear c20
                      obtain rfl := Option.some.inj H
                      go_wp2_with (first | ((with_reducible refine gate_callee (f := 17) rfl ?_); refine goesL_ (some 33) rfl rfl Try.func17 (by kernel_rfl) rfl #[.slice A0 l0.length c0, .int .i64 a1, .string a2, .int .i64 a3] rfl (by (try simp only [List.map_toArray, List.map_cons, List.map_nil]); first | done | rfl | (simp only [List.length_drop, List.length_take]; rfl)) ?_; (with_reducible refine (index_Find.calls _ _ l0 a1 a2 a3 t102 t103 _ ?side1 ?side2 A10.out).mono ?_); (case side1 => repeat (first | exact (Kd.C_below HR0.out HB.out) | (with_reducible refine Kd.C_alloc ?_ _) | (with_reducible refine Kd.C_drewN ?_ _) | (with_reducible refine Kd.C_drew ?_))); (case side2 => exact HC0.out); rintro e w21 ⟨rfl, hb⟩; refine ⟨_, rfl, ?_⟩; have n0_ := Aside0.mk (below_step (by repeat (first | (with_reducible first | exact HB.out | apply below_alloc | apply pw_below_drewN | apply below_drew1) | exact HB.out)) hb); clear HB; have HB := n0_; clear n0_; (try clear hb); (try clear hb2); (try clear hk); (try clear hi)) | ((with_reducible refine gate_callee (f := 15) rfl ?_); refine goesL_ (some 52) rfl rfl Try.func15 (by kernel_rfl) rfl #[.slice A0 l0.length c0, .int .i64 t102, .string a2, .int .i64 a3] rfl (by (try simp only [List.map_toArray, List.map_cons, List.map_nil]); first | done | rfl | (simp only [List.length_drop, List.length_take]; rfl)) ?_; (with_reducible refine (index_Down.calls _ _ l0 t102 a2 a3 t104 t105 _ ?side1 ?side2 A12.out).mono ?_); (case side1 => repeat (first | exact (Kd.C_below HR0.out HB.out) | (with_reducible refine Kd.C_alloc ?_ _) | (with_reducible refine Kd.C_drewN ?_ _) | (with_reducible refine Kd.C_drew ?_))); (case side2 => exact HC0.out); rintro e w22 ⟨rfl, hb⟩; refine ⟨_, rfl, ?_⟩; have n0_ := Aside0.mk (below_step (by repeat (first | (with_reducible first | exact HB.out | apply below_alloc | apply pw_below_drewN | apply below_drew1) | exact HB.out)) hb); clear HB; have HB := n0_; clear n0_; (try clear hb); (try clear hb2); (try clear hk); (try clear hi)) | ((with_reducible refine gate_callee (f := 21) rfl ?_); refine goesL_ (some 58) rfl rfl Try.func21 (by kernel_rfl) rfl #[.slice A0 l0.length c0, .int .i64 t102] rfl (by (try simp only [List.map_toArray, List.map_cons, List.map_nil]); first | done | rfl | (simp only [List.length_drop, List.length_take]; rfl)) ?_; (with_reducible refine (node_Read.calls _ _ l0 t102 t106 t107 t108 t109 t110 t113 _ ?side1 ?side2 A13.out).mono ?_); (case side1 => repeat (first | exact (Kd.C_below HR0.out HB.out) | (with_reducible refine Kd.C_alloc ?_ _) | (with_reducible refine Kd.C_drewN ?_ _) | (with_reducible refine Kd.C_drew ?_))); (case side2 => exact HC0.out); rintro e w23 ⟨v111, rfl, ho0, hb⟩; refine ⟨_, rfl, ?_⟩; have n0_ := Aside0.mk (Kd.R_lower ho0 (below_size (by repeat (first | (with_reducible first | exact HB.out | apply below_alloc | apply pw_below_drewN | apply below_drew1) | exact HB.out)))); have n1_ := Aside0.mk (below_step (by repeat (first | (with_reducible first | exact HB.out | apply below_alloc | apply pw_below_drewN | apply below_drew1) | exact HB.out)) hb); clear HB; have HO112 := n0_; have HB := n1_; clear n0_ n1_; (try clear hb); (try clear hb2); (try clear hk); (try clear hi); (try clear ho0)) | ((with_reducible refine gate_dst (N := 14) rfl ?_); (try (refine gate_guard (by rfl) ?_; dsimp only)); refine box_event ?hg (N := 14) ?hd (cs := #[.int .i64 0, .int .i64 0, .int .i64 0, .int .i64 0, .slice none 0 0]) (t := 24) ?hr ?_; (case hd => rfl); (case hg => rfl); (case hr => first | (go_simp; done) | (go_simp; rfl)); intro gb114 hg w24 hbox hb; have n0_ := Aside0.mk (Kd.R_below (by (with_reducible repeat (first | apply Kd.R_alloc | apply Kd.R_drewN | apply Kd.R_drew)); exact HO112.out) hb); have n1_ := Aside0.mk (below_step (by repeat (first | (with_reducible first | exact HB.out | apply below_alloc | apply pw_below_drewN | apply below_drew1) | exact HB.out)) hb); have n2_ := Aside0.mk (hbox); have n3_ := Aside0.mk ((by rw [hg]; exact (below_size (by repeat (first | (with_reducible first | exact HB.out | apply below_alloc | apply pw_below_drewN | apply below_drew1) | exact HB.out))) : w.heap.size ≤ gb114)); have n4_ := Aside0.mk ((by rw [hg]; exact (below_size (by repeat (first | (with_reducible first | exact HB.out | apply below_alloc | apply pw_below_drewN | apply below_drew1) | exact HB.out))) : w.heap.size ≤ gb114)); clear HO112; clear HB; have HO112 := n0_; have HB := n1_; have BK114 := n2_; have GW114 := n3_; have GE114 := n4_; clear n0_ n1_ n2_ n3_ n4_; clear hb hbox hg; have hcz25_0 : w24.cell? ⟨gb114, 0, none⟩ = some (.int .i64 0) := (blk_cell BK114.out 0).trans rfl; have hcz25_1 : w24.cell? ⟨gb114, 1, none⟩ = some (.int .i64 0) := (blk_cell BK114.out 1).trans rfl; have hcz25_2 : w24.cell? ⟨gb114, 2, none⟩ = some (.int .i64 0) := (blk_cell BK114.out 2).trans rfl; have hcz25_3 : w24.cell? ⟨gb114, 3, none⟩ = some (.int .i64 0) := (blk_cell BK114.out 3).trans rfl; have hcz25_4 : w24.cell? ⟨gb114, 4, none⟩ = some (.slice none 0 0) := (blk_cell BK114.out 4).trans rfl; have hfz25_0 := blk_frozen BK114.out 0; have hfz25_1 := blk_frozen BK114.out 1; have hfz25_2 := blk_frozen BK114.out 2; have hfz25_3 := blk_frozen BK114.out 3; have hfz25_4 := blk_frozen BK114.out 4; obtain ⟨Ao26, co26, eo26⟩ := Kd.R_slice HO112.out; subst eo26) | ((with_reducible refine gate_callee (f := 22) rfl ?_); refine goesL_ (some 65) rfl rfl Try.func22 (by kernel_rfl) rfl #[.slice A0 l0.length c0, .int .i64 t108] rfl (by (try simp only [List.map_toArray, List.map_cons, List.map_nil]); first | done | rfl | (simp only [List.length_drop, List.length_take]; rfl)) ?_; (with_reducible refine (arena_Low.calls _ _ l0 t108 t115 t116 _ ?side1 ?side2 A14.out).mono ?_); (case side1 => exact Kd.C_below HR0.out (by repeat (first | (with_reducible first | exact HB.out | apply below_alloc | apply pw_below_drewN | apply below_drew1 | refine below_set ?_ GE114.out) | exact HB.out))); (case side2 => exact HC0.out); rintro e w27 ⟨rfl, hb⟩; refine ⟨_, rfl, ?_⟩; have n0_ := Aside0.mk (Kd.R_below (by (with_reducible repeat (first | apply Kd.R_alloc | apply Kd.R_drewN | apply Kd.R_drew)); exact (Kd.R_mono (Kd.R_far (p := ⟨gb114, 4, none⟩) (Kd.R_far (p := ⟨gb114, 3, none⟩) (Kd.R_far (p := ⟨gb114, 2, none⟩) (Kd.R_far (p := ⟨gb114, 1, none⟩) (Kd.R_far (p := ⟨gb114, 0, none⟩) (Kd.R_types HO112.out BK114.out (by decide)) (fun _ hk => hk.2) (.int .i64 t106)) (fun _ hk => hk.2) (.int .i64 t107)) (fun _ hk => hk.2) (.int .i64 t108)) (fun _ hk => hk.2) (.int .i64 t109)) (fun _ hk => hk.2) (.slice Ao26 t110.length co26)) (fun _ h_ => h_.1))) hb); have n1_ := Aside0.mk (blk_below (g := gb114) (o := .cells #[.int .i64 t106, .int .i64 t107, .int .i64 t108, .int .i64 t109, .slice Ao26 t110.length co26] 24 (0, 0)) (by (with_reducible repeat (first | refine blk_drewN ?_ _ | refine blk_drew ?_ | refine blk_alloc ?_ _)); refine blk_put (cs := #[.int .i64 t106, .int .i64 t107, .int .i64 t108, .int .i64 t109, .slice none 0 0]) ?_ 4 _ rfl; (with_reducible repeat (first | refine blk_drewN ?_ _ | refine blk_drew ?_ | refine blk_alloc ?_ _)); refine blk_put (cs := #[.int .i64 t106, .int .i64 t107, .int .i64 t108, .int .i64 0, .slice none 0 0]) ?_ 3 _ rfl; (with_reducible repeat (first | refine blk_drewN ?_ _ | refine blk_drew ?_ | refine blk_alloc ?_ _)); refine blk_put (cs := #[.int .i64 t106, .int .i64 t107, .int .i64 0, .int .i64 0, .slice none 0 0]) ?_ 2 _ rfl; (with_reducible repeat (first | refine blk_drewN ?_ _ | refine blk_drew ?_ | refine blk_alloc ?_ _)); refine blk_put (cs := #[.int .i64 t106, .int .i64 0, .int .i64 0, .int .i64 0, .slice none 0 0]) ?_ 1 _ rfl; (with_reducible repeat (first | refine blk_drewN ?_ _ | refine blk_drew ?_ | refine blk_alloc ?_ _)); refine blk_put (cs := #[.int .i64 0, .int .i64 0, .int .i64 0, .int .i64 0, .slice none 0 0]) ?_ 0 _ rfl; (with_reducible repeat (first | refine blk_drewN ?_ _ | refine blk_drew ?_ | refine blk_alloc ?_ _)); exact BK114.out) hb); have n2_ := Aside0.mk (below_step (by repeat (first | (with_reducible first | exact HB.out | apply below_alloc | apply pw_below_drewN | apply below_drew1 | refine below_set ?_ GE114.out) | exact HB.out)) hb); clear HO112; clear BK114; clear HB; have HO112 := n0_; have BK114 := n1_; have HB := n2_; clear n0_ n1_ n2_; (try clear hb); (try clear hb2); (try clear hk); (try clear hi); have hcz28_0 : w27.cell? ⟨gb114, 0, none⟩ = some (.int .i64 t106) := (blk_cell BK114.out 0).trans rfl; have hcz28_1 : w27.cell? ⟨gb114, 1, none⟩ = some (.int .i64 t107) := (blk_cell BK114.out 1).trans rfl; have hcz28_2 : w27.cell? ⟨gb114, 2, none⟩ = some (.int .i64 t108) := (blk_cell BK114.out 2).trans rfl; have hcz28_3 : w27.cell? ⟨gb114, 3, none⟩ = some (.int .i64 t109) := (blk_cell BK114.out 3).trans rfl; have hcz28_4 : w27.cell? ⟨gb114, 4, none⟩ = some (.slice Ao26 t110.length co26) := (blk_cell BK114.out 4).trans rfl; have hfz28_0 := blk_frozen BK114.out 0; have hfz28_1 := blk_frozen BK114.out 1; have hfz28_2 := blk_frozen BK114.out 2; have hfz28_3 := blk_frozen BK114.out 3; have hfz28_4 := blk_frozen BK114.out 4))
                      go_ret
                      exact ⟨by first | rfl | (simp [errW_none, errW_some] <;> rfl) | (simp [*, errW_none, errW_some] <;> rfl), by repeat (first | (with_reducible first | exact HB.out | apply below_alloc | apply pw_below_drewN | apply below_drew1 | refine below_set ?_ GE114.out) | exact HB.out)⟩
                    · rw [if_neg c20] at H
                      have c20b0 : (t108 == 0) = false := beq_eq_false_iff_ne.mpr c20
                      have c20b1 : (t108 != 0) = true := bne_iff_ne.mpr c20
                      by_cases c29 : t116 = 0
                      · rw [if_pos c29] at H
                        have c29b0 : (t116 == 0) = true := beq_iff_eq.mpr c29
                        have c29b1 : (t116 != 0) = false := bne_eq_false_iff_eq.mpr c29
                        clear c29
                        obtain rfl := Option.some.inj H
                        go_wp2_with (first | ((with_reducible refine gate_callee (f := 17) rfl ?_); refine goesL_ (some 33) rfl rfl Try.func17 (by kernel_rfl) rfl #[.slice A0 l0.length c0, .int .i64 a1, .string a2, .int .i64 a3] rfl (by (try simp only [List.map_toArray, List.map_cons, List.map_nil]); first | done | rfl | (simp only [List.length_drop, List.length_take]; rfl)) ?_; (with_reducible refine (index_Find.calls _ _ l0 a1 a2 a3 t102 t103 _ ?side1 ?side2 A10.out).mono ?_); (case side1 => repeat (first | exact (Kd.C_below HR0.out HB.out) | (with_reducible refine Kd.C_alloc ?_ _) | (with_reducible refine Kd.C_drewN ?_ _) | (with_reducible refine Kd.C_drew ?_))); (case side2 => exact HC0.out); rintro e w30 ⟨rfl, hb⟩; refine ⟨_, rfl, ?_⟩; have n0_ := Aside0.mk (below_step (by repeat (first | (with_reducible first | exact HB.out | apply below_alloc | apply pw_below_drewN | apply below_drew1) | exact HB.out)) hb); clear HB; have HB := n0_; clear n0_; (try clear hb); (try clear hb2); (try clear hk); (try clear hi)) | ((with_reducible refine gate_callee (f := 15) rfl ?_); refine goesL_ (some 52) rfl rfl Try.func15 (by kernel_rfl) rfl #[.slice A0 l0.length c0, .int .i64 t102, .string a2, .int .i64 a3] rfl (by (try simp only [List.map_toArray, List.map_cons, List.map_nil]); first | done | rfl | (simp only [List.length_drop, List.length_take]; rfl)) ?_; (with_reducible refine (index_Down.calls _ _ l0 t102 a2 a3 t104 t105 _ ?side1 ?side2 A12.out).mono ?_); (case side1 => repeat (first | exact (Kd.C_below HR0.out HB.out) | (with_reducible refine Kd.C_alloc ?_ _) | (with_reducible refine Kd.C_drewN ?_ _) | (with_reducible refine Kd.C_drew ?_))); (case side2 => exact HC0.out); rintro e w31 ⟨rfl, hb⟩; refine ⟨_, rfl, ?_⟩; have n0_ := Aside0.mk (below_step (by repeat (first | (with_reducible first | exact HB.out | apply below_alloc | apply pw_below_drewN | apply below_drew1) | exact HB.out)) hb); clear HB; have HB := n0_; clear n0_; (try clear hb); (try clear hb2); (try clear hk); (try clear hi)) | ((with_reducible refine gate_callee (f := 21) rfl ?_); refine goesL_ (some 58) rfl rfl Try.func21 (by kernel_rfl) rfl #[.slice A0 l0.length c0, .int .i64 t102] rfl (by (try simp only [List.map_toArray, List.map_cons, List.map_nil]); first | done | rfl | (simp only [List.length_drop, List.length_take]; rfl)) ?_; (with_reducible refine (node_Read.calls _ _ l0 t102 t106 t107 t108 t109 t110 t113 _ ?side1 ?side2 A13.out).mono ?_); (case side1 => repeat (first | exact (Kd.C_below HR0.out HB.out) | (with_reducible refine Kd.C_alloc ?_ _) | (with_reducible refine Kd.C_drewN ?_ _) | (with_reducible refine Kd.C_drew ?_))); (case side2 => exact HC0.out); rintro e w32 ⟨v111, rfl, ho0, hb⟩; refine ⟨_, rfl, ?_⟩; have n0_ := Aside0.mk (Kd.R_lower ho0 (below_size (by repeat (first | (with_reducible first | exact HB.out | apply below_alloc | apply pw_below_drewN | apply below_drew1) | exact HB.out)))); have n1_ := Aside0.mk (below_step (by repeat (first | (with_reducible first | exact HB.out | apply below_alloc | apply pw_below_drewN | apply below_drew1) | exact HB.out)) hb); clear HB; have HO112 := n0_; have HB := n1_; clear n0_ n1_; (try clear hb); (try clear hb2); (try clear hk); (try clear hi); (try clear ho0)) | ((with_reducible refine gate_dst (N := 14) rfl ?_); (try (refine gate_guard (by rfl) ?_; dsimp only)); refine box_event ?hg (N := 14) ?hd (cs := #[.int .i64 0, .int .i64 0, .int .i64 0, .int .i64 0, .slice none 0 0]) (t := 24) ?hr ?_; (case hd => rfl); (case hg => rfl); (case hr => first | (go_simp; done) | (go_simp; rfl)); intro gb114 hg w33 hbox hb; have n0_ := Aside0.mk (Kd.R_below (by (with_reducible repeat (first | apply Kd.R_alloc | apply Kd.R_drewN | apply Kd.R_drew)); exact HO112.out) hb); have n1_ := Aside0.mk (below_step (by repeat (first | (with_reducible first | exact HB.out | apply below_alloc | apply pw_below_drewN | apply below_drew1) | exact HB.out)) hb); have n2_ := Aside0.mk (hbox); have n3_ := Aside0.mk ((by rw [hg]; exact (below_size (by repeat (first | (with_reducible first | exact HB.out | apply below_alloc | apply pw_below_drewN | apply below_drew1) | exact HB.out))) : w.heap.size ≤ gb114)); have n4_ := Aside0.mk ((by rw [hg]; exact (below_size (by repeat (first | (with_reducible first | exact HB.out | apply below_alloc | apply pw_below_drewN | apply below_drew1) | exact HB.out))) : w.heap.size ≤ gb114)); clear HO112; clear HB; have HO112 := n0_; have HB := n1_; have BK114 := n2_; have GW114 := n3_; have GE114 := n4_; clear n0_ n1_ n2_ n3_ n4_; clear hb hbox hg; have hcz34_0 : w33.cell? ⟨gb114, 0, none⟩ = some (.int .i64 0) := (blk_cell BK114.out 0).trans rfl; have hcz34_1 : w33.cell? ⟨gb114, 1, none⟩ = some (.int .i64 0) := (blk_cell BK114.out 1).trans rfl; have hcz34_2 : w33.cell? ⟨gb114, 2, none⟩ = some (.int .i64 0) := (blk_cell BK114.out 2).trans rfl; have hcz34_3 : w33.cell? ⟨gb114, 3, none⟩ = some (.int .i64 0) := (blk_cell BK114.out 3).trans rfl; have hcz34_4 : w33.cell? ⟨gb114, 4, none⟩ = some (.slice none 0 0) := (blk_cell BK114.out 4).trans rfl; have hfz34_0 := blk_frozen BK114.out 0; have hfz34_1 := blk_frozen BK114.out 1; have hfz34_2 := blk_frozen BK114.out 2; have hfz34_3 := blk_frozen BK114.out 3; have hfz34_4 := blk_frozen BK114.out 4; obtain ⟨Ao35, co35, eo35⟩ := Kd.R_slice HO112.out; subst eo35) | ((with_reducible refine gate_callee (f := 22) rfl ?_); refine goesL_ (some 65) rfl rfl Try.func22 (by kernel_rfl) rfl #[.slice A0 l0.length c0, .int .i64 t108] rfl (by (try simp only [List.map_toArray, List.map_cons, List.map_nil]); first | done | rfl | (simp only [List.length_drop, List.length_take]; rfl)) ?_; (with_reducible refine (arena_Low.calls _ _ l0 t108 t115 t116 _ ?side1 ?side2 A14.out).mono ?_); (case side1 => exact Kd.C_below HR0.out (by repeat (first | (with_reducible first | exact HB.out | apply below_alloc | apply pw_below_drewN | apply below_drew1 | refine below_set ?_ GE114.out) | exact HB.out))); (case side2 => exact HC0.out); rintro e w36 ⟨rfl, hb⟩; refine ⟨_, rfl, ?_⟩; have n0_ := Aside0.mk (Kd.R_below (by (with_reducible repeat (first | apply Kd.R_alloc | apply Kd.R_drewN | apply Kd.R_drew)); exact (Kd.R_mono (Kd.R_far (p := ⟨gb114, 4, none⟩) (Kd.R_far (p := ⟨gb114, 3, none⟩) (Kd.R_far (p := ⟨gb114, 2, none⟩) (Kd.R_far (p := ⟨gb114, 1, none⟩) (Kd.R_far (p := ⟨gb114, 0, none⟩) (Kd.R_types HO112.out BK114.out (by decide)) (fun _ hk => hk.2) (.int .i64 t106)) (fun _ hk => hk.2) (.int .i64 t107)) (fun _ hk => hk.2) (.int .i64 t108)) (fun _ hk => hk.2) (.int .i64 t109)) (fun _ hk => hk.2) (.slice Ao35 t110.length co35)) (fun _ h_ => h_.1))) hb); have n1_ := Aside0.mk (blk_below (g := gb114) (o := .cells #[.int .i64 t106, .int .i64 t107, .int .i64 t108, .int .i64 t109, .slice Ao35 t110.length co35] 24 (0, 0)) (by (with_reducible repeat (first | refine blk_drewN ?_ _ | refine blk_drew ?_ | refine blk_alloc ?_ _)); refine blk_put (cs := #[.int .i64 t106, .int .i64 t107, .int .i64 t108, .int .i64 t109, .slice none 0 0]) ?_ 4 _ rfl; (with_reducible repeat (first | refine blk_drewN ?_ _ | refine blk_drew ?_ | refine blk_alloc ?_ _)); refine blk_put (cs := #[.int .i64 t106, .int .i64 t107, .int .i64 t108, .int .i64 0, .slice none 0 0]) ?_ 3 _ rfl; (with_reducible repeat (first | refine blk_drewN ?_ _ | refine blk_drew ?_ | refine blk_alloc ?_ _)); refine blk_put (cs := #[.int .i64 t106, .int .i64 t107, .int .i64 0, .int .i64 0, .slice none 0 0]) ?_ 2 _ rfl; (with_reducible repeat (first | refine blk_drewN ?_ _ | refine blk_drew ?_ | refine blk_alloc ?_ _)); refine blk_put (cs := #[.int .i64 t106, .int .i64 0, .int .i64 0, .int .i64 0, .slice none 0 0]) ?_ 1 _ rfl; (with_reducible repeat (first | refine blk_drewN ?_ _ | refine blk_drew ?_ | refine blk_alloc ?_ _)); refine blk_put (cs := #[.int .i64 0, .int .i64 0, .int .i64 0, .int .i64 0, .slice none 0 0]) ?_ 0 _ rfl; (with_reducible repeat (first | refine blk_drewN ?_ _ | refine blk_drew ?_ | refine blk_alloc ?_ _)); exact BK114.out) hb); have n2_ := Aside0.mk (below_step (by repeat (first | (with_reducible first | exact HB.out | apply below_alloc | apply pw_below_drewN | apply below_drew1 | refine below_set ?_ GE114.out) | exact HB.out)) hb); clear HO112; clear BK114; clear HB; have HO112 := n0_; have BK114 := n1_; have HB := n2_; clear n0_ n1_ n2_; (try clear hb); (try clear hb2); (try clear hk); (try clear hi); have hcz37_0 : w36.cell? ⟨gb114, 0, none⟩ = some (.int .i64 t106) := (blk_cell BK114.out 0).trans rfl; have hcz37_1 : w36.cell? ⟨gb114, 1, none⟩ = some (.int .i64 t107) := (blk_cell BK114.out 1).trans rfl; have hcz37_2 : w36.cell? ⟨gb114, 2, none⟩ = some (.int .i64 t108) := (blk_cell BK114.out 2).trans rfl; have hcz37_3 : w36.cell? ⟨gb114, 3, none⟩ = some (.int .i64 t109) := (blk_cell BK114.out 3).trans rfl; have hcz37_4 : w36.cell? ⟨gb114, 4, none⟩ = some (.slice Ao35 t110.length co35) := (blk_cell BK114.out 4).trans rfl; have hfz37_0 := blk_frozen BK114.out 0; have hfz37_1 := blk_frozen BK114.out 1; have hfz37_2 := blk_frozen BK114.out 2; have hfz37_3 := blk_frozen BK114.out 3; have hfz37_4 := blk_frozen BK114.out 4))
                        go_ret
                        exact ⟨by first | rfl | (simp [errW_none, errW_some] <;> rfl) | (simp [*, errW_none, errW_some] <;> rfl), by repeat (first | (with_reducible first | exact HB.out | apply below_alloc | apply pw_below_drewN | apply below_drew1 | refine below_set ?_ GE114.out) | exact HB.out)⟩
                      · rw [if_neg c29] at H
                        exact absurd H (by simp)
                  · rw [if_neg c19] at H
                    exact absurd H (by simp)
                · rw [if_neg c18] at H
                  exact absurd H (by simp)
              · rw [if_neg c17] at H
                exact absurd H (by simp)
            · rw [if_neg c16] at H
              exact absurd H (by simp)
          · replace c15 := Bool.eq_false_iff.mpr c15
            subst c15
            have H1 : (none) = some r := by rw [if_neg (show ¬ (false = true) by decide)] at H; exact H
            clear H
            have H := H1
            clear H1
            exact absurd H (by simp)
        · rw [if_neg c11] at H
          have c11b0 : (t103 == 0) = false := beq_eq_false_iff_ne.mpr c11
          have c11b1 : (t103 != 0) = true := bne_iff_ne.mpr c11
          by_cases c38 : t101 = true
          · subst c38
            have H1 : (if t103 = 90 then (some (t102 == 0)) else (none)) = some r := by rw [if_pos rfl] at H; exact H
            clear H
            have H := H1
            clear H1
            by_cases c39 : t103 = 90
            · rw [if_pos c39] at H
              have c39b0 : (t103 == 90) = true := beq_iff_eq.mpr c39
              have c39b1 : (t103 != 90) = false := bne_eq_false_iff_eq.mpr c39
              clear c39
              obtain rfl := Option.some.inj H
              go_wp2_with (first | ((with_reducible refine gate_callee (f := 17) rfl ?_); refine goesL_ (some 33) rfl rfl Try.func17 (by kernel_rfl) rfl #[.slice A0 l0.length c0, .int .i64 a1, .string a2, .int .i64 a3] rfl (by (try simp only [List.map_toArray, List.map_cons, List.map_nil]); first | done | rfl | (simp only [List.length_drop, List.length_take]; rfl)) ?_; (with_reducible refine (index_Find.calls _ _ l0 a1 a2 a3 t102 t103 _ ?side1 ?side2 A10.out).mono ?_); (case side1 => repeat (first | exact (Kd.C_below HR0.out HB.out) | (with_reducible refine Kd.C_alloc ?_ _) | (with_reducible refine Kd.C_drewN ?_ _) | (with_reducible refine Kd.C_drew ?_))); (case side2 => exact HC0.out); rintro e w40 ⟨rfl, hb⟩; refine ⟨_, rfl, ?_⟩; have n0_ := Aside0.mk (below_step (by repeat (first | (with_reducible first | exact HB.out | apply below_alloc | apply pw_below_drewN | apply below_drew1) | exact HB.out)) hb); clear HB; have HB := n0_; clear n0_; (try clear hb); (try clear hb2); (try clear hk); (try clear hi)))
              go_ret
              exact ⟨by first | rfl | (simp [errW_none, errW_some] <;> rfl) | (simp [*, errW_none, errW_some] <;> rfl), by repeat (first | (with_reducible first | exact HB.out | apply below_alloc | apply pw_below_drewN | apply below_drew1) | exact HB.out)⟩
            · rw [if_neg c39] at H
              exact absurd H (by simp)
          · replace c38 := Bool.eq_false_iff.mpr c38
            subst c38
            have H1 : (none) = some r := by rw [if_neg (show ¬ (false = true) by decide)] at H; exact H
            clear H
            have H := H1
            clear H1
            exact absurd H (by simp)

end
end Go.Proofs.Ytliaemoomhfcdaa.ST
