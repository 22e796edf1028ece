/- The walks of the reference's Take and Give. -/
import Derived.Test.YtjidfnogmedgnaaGive
import Derived.Deep.RegionHeldLaw
namespace Go.Proofs.Ytjidfnogmedgnaa
open Go.RowKit
set_option maxHeartbeats 1000000
set_option maxRecDepth 100000

theorem run_append_fresh (w : World) (ad : Addr) (A : Option Addr) (m c : Nat) (xs : List Int) (h : RI w A m xs) (hm : m ≤ 1000000000) (ty : TypeId) :
    ∃ A' c' w', (Builtin.append_ #[22, 22] ty #[.slice (some ad) 0 0, .slice A m c]).run Try.prog w = .ok (.slice A' m c') w' ∧ m ≤ c' ∧ RI w' A' m xs ∧ Below w.heap.size w w' := by
  obtain ⟨i0, hi0, hz0, hz1, hz2⟩ := info_parts int_info
  have hl := h.len
  rcases Nat.eq_zero_or_pos m with h0 | h0
  · subst h0
    have hx : xs = [] := List.eq_nil_of_length_eq_zero hl
    subst hx
    refine ⟨some ad, 0, w, ?_, Nat.le_refl _, ⟨by simp, fun h => by omega⟩, Below.refl _ _⟩
    cases A <;> simp [Builtin.append_, run_underlying Try.underlying22, sizeOf, typeInfo, hi0, Builtin.lenOf, Builtin.firstCells, storeCells, loadCells, loadCellsFrom]
  · obtain ⟨a, rfl, ha, hc⟩ := h.2 h0
    have hr := run_append_grow (P := Try.prog) w 22 ty 3 i0 _ Try.underlying22 hi0 hz0 ad 0 0 [] (by simp) (fun j v h => by simp at h) a m c (ints xs) (by rw [hz1]; simp [hl]) hc (by omega) (by omega) (by rw [hz2]; have := growslice_fits (need := 0 + m) (old := 0) (bytes := 8) (by omega) (by omega); simpa using this)
    refine ⟨_, _, _, by simpa using hr, grownCap_ge _ _ _ _, ?_, (Below.refl _ _).drew.alloc (by simp) _⟩
    refine ri_of_cells hl (by simp) (fun j y hj => ?_)
    have hw := heap_alloc_new w.drew (.cells ((ints xs).toArray ++ Builtin.zeroCells (Value.int .i64 0).cells (grownCap w m 0 3 - m)) 3)
    rw [show w.drew.heap.size = w.heap.size from rfl] at hw
    rw [cell_of_row _ _ _ _ _ _ hw, Array.getElem?_append_left (by
      rcases Nat.lt_or_ge j xs.length with h' | h'
      · simpa using h'
      · rw [List.getElem?_eq_none h'] at hj; cases hj)]
    simp [hj]

theorem step_fresh {ops : Array Oper} {o : Oper} {a : Act} {w : World} {K : Act → World → Prop} {Q : Exit → Act → World → Prop} {E : Prop} (hgd : o.guard = none) (s x : Operand)
    (ho : o.op = .call { callee := .builtin .append, args := #[s, x], argTypes := #[22, 22] }) (ad : Addr) (hs : a.eval s = .slice (some ad) 0 0)
    (A : Option Addr) (m c : Nat) (xs : List Int) (hx : a.eval x = .slice A m c) (hr : RI w A m xs) (hm : m ≤ 1000000000)
    (h : ∀ A' c' w', m ≤ c' → RI w' A' m xs → Below w.heap.size w w' → K (a.put o.dst (.slice A' m c')) w') :
    if Region.wanted o (yielded ops a.tmps) = true then Oper.wp Try.prog o a w K Q else E := by
  have hw : Region.wanted o (yielded ops a.tmps) = true := by simp [Region.wanted, hgd]
  rw [if_pos hw]
  obtain ⟨A', c', w', hrun, h1, h2, h3⟩ := run_append_fresh w ad A m c xs hr hm o.type
  unfold Oper.wp execOp
  simp only [ho, resolve, invoke, builtin, Sem.run_bind, Sem.run_pure, Result.andThen_ok, List.map_toArray, List.map_cons, List.map_nil, hs, hx, hrun]
  exact h A' c' w' h1 h2 h3


/-- The reference's Take. -/
theorem refTake_any (A : Option Addr) (n c : Nat) (xs : List Int) (m : Int) (w : World) (h : RI w A n xs) (hn : n ≤ 1000000000) (hnc : n ≤ c) :
    Calls Try.prog 12 #[.slice A n c, .int .i64 m] w (Two w (takeOf xs m)) := by
  have HR := Lib.hid h
  have HL := Lib.hid h.len
  clear h
  cases hc : chk xs with
  | false =>
    have HT := Lib.hid (show takeOf xs m = ([], xs, 1) from by simp [takeOf, hc])
    go_enter Try.func12, Try.ntmps12
    go_wp2_with fail
    refine (refCheck_any A n c xs _ HR.out hn).mono ?_
    rw [hc]
    rintro e w1 ⟨rfl, hB1⟩
    go_wp2
    go_ret3
    exact ⟨none, 0, 0, A, n, c, by rw [HT.out]; rfl, Nat.le_refl _, hnc, by rw [HT.out]; exact RI.nil _, by rw [HT.out]; exact HR.out.below hB1, hB1⟩
  | true =>
    by_cases h0 : m < 0
    · have HT := Lib.hid (show takeOf xs m = ([], xs, 1) from by simp [takeOf, h0])
      go_enter Try.func12, Try.ntmps12
      go_wp2_with fail
      refine (refCheck_any A n c xs _ HR.out hn).mono ?_
      rw [hc]
      rintro e w1 ⟨rfl, hB1⟩
      go_wp2
      go_ret3
      exact ⟨none, 0, 0, A, n, c, by rw [HT.out]; rfl, Nat.le_refl _, hnc, by rw [HT.out]; exact RI.nil _, by rw [HT.out]; exact HR.out.below hB1, hB1⟩
    · by_cases h1 : (n : Int) < m
      · have HT := Lib.hid (show takeOf xs m = ([], xs, 100) from by simp [takeOf, h0, hc, HL.out, h1])
        go_enter Try.func12, Try.ntmps12
        go_wp2_with fail
        refine (refCheck_any A n c xs _ HR.out hn).mono ?_
        rw [hc]
        rintro e w1 ⟨rfl, hB1⟩
        go_wp2
        go_ret3
        exact ⟨none, 0, 0, A, n, c, by rw [HT.out]; rfl, Nat.le_refl _, hnc, by rw [HT.out]; exact RI.nil _, by rw [HT.out]; exact HR.out.below hB1, hB1⟩
      · have HT := Lib.hid (show takeOf xs m = (xs.take m.toNat, xs.drop m.toNat, 0) from by simp [takeOf, h0, hc, HL.out, h1])
        obtain ⟨k, rfl⟩ := Int.eq_ofNat_of_zero_le (show 0 ≤ m by omega)
        have hk : k ≤ n := by omega
        have hk0 : (0 : Int) ≤ (k : Int) := Int.natCast_nonneg _
        have hk1 : (k : Int) ≤ (n : Int) := by omega
        have hk2 : (k : Int) ≤ (c : Int) := by omega
        have hk3 : (n : Int) ≤ (c : Int) := by omega
        have hk4 : k ≤ c := by omega
        go_enter Try.func12, Try.ntmps12
        go_wp2_with fail
        refine (refCheck_any A n c xs _ HR.out hn).mono ?_
        rw [hc]
        rintro e w1 ⟨rfl, hB1⟩
        have hri := HR.out.below hB1
        have h1t := hri.take hk
        have h1d := hri.drop hk hnc
        go_wp2_with fail
        go_region_law (first
          | (refine step_fresh rfl (.tmp 22) (.tmp 25) rfl _ rfl _ k c (xs.take k) rfl ?_ (by omega) ?_; (refine RI.below h1t ?_; (repeat' (first | exact Below.refl _ _ | assumption | refine Below.drew ?_ | refine Below.alloc ?_ ?_ _ | (refine Below.next ?_ ‹_›) | exact Nat.le_refl _ | omega | (simp only [World.alloc, Array.size_push]; omega)))); intro A1 c1 w2 hc1 hr2 hB2; have hs2 : w1.heap.size + 1 ≤ w2.heap.size := (by have := hB2.size; simp only [World.alloc, World.drew, Array.size_push] at this; omega))
          | (refine step_fresh rfl (.tmp 27) (.tmp 30) rfl _ rfl _ (n - k) (c - k) (xs.drop k) rfl ?_ (by omega) ?_; (refine RI.below h1d ?_; (repeat' (first | exact Below.refl _ _ | assumption | refine Below.drew ?_ | refine Below.alloc ?_ ?_ _ | (refine Below.next ?_ ‹_›) | exact Nat.le_refl _ | omega | (simp only [World.alloc, Array.size_push]; omega)))); intro A2 c2 w3 hc2 hr3 hB3; have hs3 := hB3.size; try simp only [World.alloc, Array.size_push] at hs3))
        all_goals go_wp2
        all_goals go_ret3
        all_goals (refine ⟨A1, _, c1, A2, _, c2, by rw [HT.out]; rfl, hc1, hc2, ?_, by rw [HT.out]; exact hr3, ?_⟩)
        all_goals (first | (rw [HT.out, Int.toNat_natCast]; refine RI.below hr2 ?_; (repeat' (first | exact Below.refl _ _ | assumption | refine Below.drew ?_ | refine Below.alloc ?_ ?_ _ | (refine Below.next ?_ ‹_›) | exact Nat.le_refl _ | omega | (simp only [World.alloc, Array.size_push]; omega)))) | skip)
        all_goals (refine hB1.next ?_; (repeat' (first | exact Below.refl _ _ | assumption | refine Below.drew ?_ | refine Below.alloc ?_ ?_ _ | (refine Below.next ?_ ‹_›) | exact Nat.le_refl _ | omega | (simp only [World.alloc, Array.size_push]; omega))))
end Go.Proofs.Ytjidfnogmedgnaa
