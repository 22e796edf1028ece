/- Phrases that recur in the printed texts, as theorems: what is closed by a tactic stands as an argument with a default. -/
import Derived.WalkKit
import Derived.Below
import Derived.Deep.RegionHeld3
namespace Go.Proofs
open Go.RowKit
theorem kc_ {w w2 : World} {p : Addr} {v : Value} (hB : Below w.heap.size w w2) (h : w.cell? p = some v) : w2.cell? p = some v := (hB.cell (World.block_lt_of_cell? w p h)).trans h
theorem kl_ {w : World} {p : Addr} {v : Value} {b : Nat} (h : w.cell? p = some v) (e : p.block = b := by first | rfl | exact add_block _ _) : b < w.heap.size := e ▸ World.block_lt_of_cell? w p h
theorem qh_ {P : Prop} (h : P := by repeat (first | (with_reducible first | exact HB.out | apply below_alloc | apply pw_below_drewN | apply below_drew1) | exact HB.out)) : P := h
theorem qm_ {P : Prop} (h : P := by (try simp only [List.map_toArray, List.map_cons, List.map_nil]); first | done | rfl | (simp only [List.length_drop, List.length_take]; rfl)) : P := h
theorem qe_ {P : Prop} (h : P := by first | rfl | (simp [errW_none, errW_some] <;> rfl) | (simp [*, errW_none, errW_some] <;> rfl)) : P := h
theorem qb_ {Q P : Prop} (z : Q) (h : Q → P := by intro z; (with_reducible repeat (first | refine blk_drewN ?_ _ | refine blk_drew ?_ | refine blk_alloc ?_ _)); exact z) : P := h z
theorem qr_ {Q P : Prop} (z : Q) (h : Q → P := by intro z; (with_reducible repeat (first | apply Kd.R_alloc | apply Kd.R_drewN | apply Kd.R_drew)); exact z) : P := h z
theorem qg1_ {Q0 P : Prop} (z0 : Q0) (h : Q0 → P := by intro z0; repeat (first | (with_reducible first | exact HB.out | apply below_alloc | apply pw_below_drewN | apply below_drew1 | refine below_set ?_ z0) | exact HB.out)) : P := h z0
theorem qg2_ {Q0 Q1 P : Prop} (z0 : Q0) (z1 : Q1) (h : Q0 → Q1 → P := by intro z0 z1; repeat (first | (with_reducible first | exact HB.out | apply below_alloc | apply pw_below_drewN | apply below_drew1 | refine below_set ?_ z0 | refine below_set ?_ z1) | exact HB.out)) : P := h z0 z1
theorem qg3_ {Q0 Q1 Q2 P : Prop} (z0 : Q0) (z1 : Q1) (z2 : Q2) (h : Q0 → Q1 → Q2 → P := by intro z0 z1 z2; repeat (first | (with_reducible first | exact HB.out | apply below_alloc | apply pw_below_drewN | apply below_drew1 | refine below_set ?_ z0 | refine below_set ?_ z1 | refine below_set ?_ z2) | exact HB.out)) : P := h z0 z1 z2
theorem qg4_ {Q0 Q1 Q2 Q3 P : Prop} (z0 : Q0) (z1 : Q1) (z2 : Q2) (z3 : Q3) (h : Q0 → Q1 → Q2 → Q3 → P := by intro z0 z1 z2 z3; repeat (first | (with_reducible first | exact HB.out | apply below_alloc | apply pw_below_drewN | apply below_drew1 | refine below_set ?_ z0 | refine below_set ?_ z1 | refine below_set ?_ z2 | refine below_set ?_ z3) | exact HB.out)) : P := h z0 z1 z2 z3
end Go.Proofs
