/- The walk of the reference's node of a block's words. -/
import Derived.Test.YtliaemoomhfcdaaRefC
namespace Go.Proofs.Ytliaemoomhfcdaa
open Go.RowKit Go.Proofs.YtliaemoomhfcdaaW.PrintWords
set_option maxHeartbeats 2000000
set_option maxRecDepth 100000
set_option linter.unusedVariables false
set_option linter.unusedSimpArgs false

theorem res_rnode {tmps : Array Value} {W : World} {g : Nat} {a b c d : Int} {s v : Value} (hp : tmps.getD 4 undef = .pointer (some ⟨g, 0, none⟩)) (hv : tmps.getD 5 undef = v)
    (h : W.heap[g]? = some (.cells #[.int .i64 a, .int .i64 b, .int .i64 c, .int .i64 d, s] 24 (0, 0))) :
    (results Try.f41 tmps).run Try.prog W = .ok (.tuple #[.agg #[.int .i64 a, .int .i64 b, .int .i64 c, .int .i64 d, s], v]) W := by
  rw [results_cell_tmp (p := 4) (u := 5) (ty := 24) rfl, hp, hv]
  have h1 := run_loadVar_row (P := Try.prog) W g 24 24 _ _ _ h Try.underlying24 rfl (by kernel_rfl)
  have h2 : (asAddr (.pointer (some ⟨g, 0, none⟩))).run Try.prog W = .ok ⟨g, 0, none⟩ W := by simp [asAddr]
  rw [h2]
  show ((loadVar 24 ⟨g, 0, none⟩).run Try.prog W).andThen _ = _
  rw [h1]
  rfl
theorem rnode_bad (A : Option Addr) (n c : Nat) (b : Int) (w : World) (hn : n ≤ 1000000) (hb : b < 0 ∨ 4096 ≤ b ∨ (n : Int) < 16 * b + 16) :
    Calls Try.prog 41 #[.slice A n c, .int .i64 b] w (NodePost (PNode.zero, 1) w) := by
  by_cases h0 : b < 0
  · go_enter Try.func41, Try.ntmps41
    go_wp2
    exact bodyPost_ret (res_rnode rfl rfl (heap_alloc_new _ _)) rfl ⟨_, rfl, Kd.R_nil _ _ _ _ _, (Below.refl _ _).alloc (Nat.le_refl _) _⟩
  by_cases h1 : 4096 ≤ b
  · go_enter Try.func41, Try.ntmps41
    go_wp2
    exact bodyPost_ret (res_rnode rfl rfl (heap_alloc_new _ _)) rfl ⟨_, rfl, Kd.R_nil _ _ _ _ _, (Below.refl _ _).alloc (Nat.le_refl _) _⟩
  · have h2 : (n : Int) < 16 * b + 16 := by omega
    go_enter Try.func41, Try.ntmps41
    go_wp2
    exact bodyPost_ret (res_rnode rfl rfl (heap_alloc_new _ _)) rfl ⟨_, rfl, Kd.R_nil _ _ _ _ _, (Below.refl _ _).alloc (Nat.le_refl _) _⟩
abbrev zNode : Array Value := #[Value.int .i64 0, Value.int .i64 0, Value.int .i64 0, Value.int .i64 0, Value.slice none 0 0]
theorem kept_node {W w1 : World} {g n0 k t : Nat} {v : Value} {xs : List Value} {cs : Array Value} {tmp : Obj} (hn : W.heap[g]? = some (.cells cs t (0, 0))) (ht : t ≠ 3) (hrow : W.ownsRow n0 3 1 v k xs) (hg : (W.alloc tmp).drew.grownBy w1 v.ownBlock) : w1.heap[g]? = some (.cells cs t (0, 0)) := by
  have hlt := (Array.getElem?_eq_some_iff.1 hn).1
  rw [hg.block g (by simp; omega) ?_]
  · exact (Below.heap_alloc _ _ _ hlt).trans hn
  · rcases hrow.2 with ⟨rfl, _⟩ | ⟨g2, cap, cur, rfl, _, hgb, _⟩
    · simp [Value.ownBlock]
    · intro e
      obtain rfl : g = g2 := by simpa [Value.ownBlock] using e
      have := hn.symm.trans hgb
      simp at this
      exact ht this.2
theorem own_setNode {W : World} {g n0 k t i : Nat} {v u : Value} {xs : List Value} {cs : Array Value} (h : W.ownsRow n0 3 1 v k xs) (hn : W.heap[g]? = some (.cells cs t (0, 0))) (ht : t ≠ 3) : (W.setCell ⟨g, i, none⟩ u).ownsRow n0 3 1 v k xs := by
  refine ⟨h.1, ?_⟩
  rcases h.2 with h2 | ⟨g2, cap, cur, rfl, h1, h2, h3⟩
  · exact .inl h2
  · refine .inr ⟨g2, cap, cur, rfl, h1, (Below.heap_setCell W ⟨g, i, none⟩ u g2 ?_).trans h2, h3⟩
    intro e
    subst e
    have := hn.symm.trans h2
    simp at this
    exact ht this.2
theorem ends_take : ∀ (l : List Int) (k : Nat), (∀ x ∈ l.take k, x ≠ 0) → (l.length ≤ k ∨ l[k]? = some 0) → l.takeWhile (fun x => decide (x ≠ 0)) = l.take k
  | [], k, _, _ => by simp
  | a :: l, 0, _, h => by
    rcases h with h | h
    · simp at h
    · have : a = 0 := by simpa using h
      subst this
      rfl
  | a :: l, k + 1, h1, h2 => by
    have ha : a ≠ 0 := h1 a (by simp)
    rw [List.takeWhile_cons, decide_eq_true ha, List.take_succ_cons]
    simp only [if_true]
    rw [ends_take l k (fun x hx => h1 x (by rw [List.take_succ_cons]; exact List.mem_cons_of_mem _ hx)) (by rcases h2 with h2 | h2; left; simp at h2; omega; right; simpa using h2)]
theorem own_mv_ {W W' : World} {n0 k : Nat} {v : Value} {xs : List Value} (h : W.ownsRow n0 3 1 v k xs) (hm : ∀ (q : Nat) (cur : Array Value), W.heap[q]? = some (Obj.cells cur 3 (0, 0)) → W'.heap[q]? = some (Obj.cells cur 3 (0, 0))) : W'.ownsRow n0 3 1 v k xs := by
  refine ⟨h.1, ?_⟩
  rcases h.2 with h2 | ⟨g2, cap, cur, rfl, h1, h2, h3⟩
  · exact .inl h2
  · exact .inr ⟨g2, cap, cur, rfl, h1, hm _ _ h2, h3⟩
theorem own_box {W W6 : World} {n0 k R t : Nat} {v : Value} {xs : List Value} {cs cs' : Array Value} (h : W.ownsRow n0 3 1 v k xs) (hb : Below W.heap.size W W6) (hr : W.heap[R]? = some (.cells cs t (0, 0))) (ht : t ≠ 3) : (W6.setRow R cs').ownsRow n0 3 1 v k xs := by
  refine own_mv_ h (fun q cur hq => ?_)
  rw [setRow_else _ _ _ _ (by intro e; subst e; have := hr.symm.trans hq; simp at this; exact ht this.2)]
  exact (hb.block _ (Array.getElem?_eq_some_iff.1 hq).1).trans hq
theorem refNode_ok (f : List Int) (x : PNode) (q : Bool) (hno : ¬ (f.getD 0 0 < 0 ∨ wrap64 (f.getD 0 0 - 1152921504606846976) < 0)) (hx : refNodeOf f = x) (hok : x.ok = true) (hq : q = (x.words == f)) : refNode16 f = if q = true then (x, 0) else (PNode.zero, 90) := by
  unfold refNode16
  rw [if_neg hno, hx]
  by_cases h : q = true
  · rw [if_pos h, if_pos ⟨hok, by rw [hq] at h; exact eq_of_beq h⟩]
  · rw [if_neg h, if_neg (fun h2 => h (by rw [hq]; exact beq_iff_eq.2 h2.2))]
theorem refNode_no (f : List Int) (x : PNode) (hno : ¬ (f.getD 0 0 < 0 ∨ wrap64 (f.getD 0 0 - 1152921504606846976) < 0)) (hx : refNodeOf f = x) (hok : ¬ x.ok = true) : refNode16 f = (PNode.zero, 90) := by
  unfold refNode16
  rw [if_neg hno, hx, if_neg (fun h => hok h.1)]
theorem nums_call (A0 : Option Addr) (c0 : Nat) (l0 : List Int) (A1 : Option Addr) (n1 c1 : Nat) (l1 : List Int) (q : Bool) (W : World) (h0 : Kd.C (Kd.int .i64) W A0 l0.length l0) (hc0 : l0.length ≤ c0) (h1 : RI W A1 n1 l1) (hc1 : n1 ≤ c1) (hn : l0.length ≤ 100000) (hn1 : n1 ≤ 100000) (hq : q = (l0 == l1)) :
    Calls Try.prog 78 #[.slice A0 l0.length c0, .slice A1 n1 c1] W fun e w' => e = .returned (.bool q) ∧ Drawn0 W w' := by
  obtain rfl := h1.len
  exact RR.lamplighterref02_Numbers.calls 1000000 A0 c0 l0 A1 c1 l1 q W h0 hc0 (C_of_RI h1 (by omega)) hc1 (by rw [refn_f _ _ (by omega) 1000000 (by omega), hq])
theorem rnode_good (A : Option Addr) (n c : Nat) (xs : List Int) (b : Nat) (w : World) (h : RI w A n xs) (hn : n ≤ 60000) (hc : n ≤ c) (hb : 16 * b + 16 ≤ n) :
    Calls Try.prog 41 #[.slice A n c, .int .i64 (b : Int)] w (NodePost (refNode16 (blockOf xs b)) w) := by
  have hlen : (blockOf xs b).length = 16 := by unfold blockOf; rw [List.length_take, List.length_drop, h.len]; omega
  obtain ⟨ad, x0, rfl, _, _, _⟩ := h.at_ (k := 0) (by omega)
  have hri : RI w (some (ad.add (16 * b))) 16 (blockOf xs b) := by
    have := RI.dropc h (k := 16 * b) (by omega) hc (by omega)
    exact RI.take this (by omega)
  generalize blockOf xs b = f at hlen hri ⊢
  obtain ⟨f0, f1, f2, f3, f4, f5, f6, f7, f8, f9, f10, f11, f12, f13, f14, f15, rfl⟩ : ∃ f0 f1 f2 f3 f4 f5 f6 f7 f8 f9 f10 f11 f12 f13 f14 f15, f = [f0, f1, f2, f3, f4, f5, f6, f7, f8, f9, f10, f11, f12, f13, f14, f15] := by
    match f, hlen with
    | [g0, g1, g2, g3, g4, g5, g6, g7, g8, g9, g10, g11, g12, g13, g14, g15], _ => exact ⟨g0, g1, g2, g3, g4, g5, g6, g7, g8, g9, g10, g11, g12, g13, g14, g15, rfl⟩
  have HRI := Lib.hid hri
  have hcap : ¬ c = 16 * b := by omega
  have hI0 : (0 : Int) ≤ 16 * (b : Int) := by omega
  have hI1 : (16 : Int) * (b : Int) ≤ 16 * (b : Int) + 16 := by omega
  have hI2 : (16 : Int) * (b : Int) + 16 ≤ (c : Int) := by omega
  have hI6 : (16 : Int) * (b : Int) + 16 ≤ (n : Int) := by omega
  have hI3 : (16 * (b : Int)).toNat = 16 * b := by omega
  have hI5 : (16 * (b : Int) + 16).toNat - 16 * b = 16 := by omega
  have hI7 : ¬ (4096 : Int) ≤ b := by omega
  have hI4 : IntKind.i64.wrap (16 * (b : Int)) = 16 * (b : Int) := by rw [IntKind.wrap_i64]; omega
  have hI8 : IntKind.i64.wrap (16 * (b : Int) + 16) = 16 * (b : Int) + 16 := by rw [IntKind.wrap_i64]; omega
  clear hri hlen h hb
  go_enter Try.func41, Try.ntmps41
  go_upto_region 4 with fail
  have HZ := Lib.hid (heap_alloc_new w (.cells #[Value.int .i64 0, Value.int .i64 0, Value.int .i64 0, Value.int .i64 0, Value.slice none 0 0] 24))
  have HB1 := Lib.hid ((Below.refl w.heap.size w).alloc (Nat.le_refl _) (.cells #[Value.int .i64 0, Value.int .i64 0, Value.int .i64 0, Value.int .i64 0, Value.slice none 0 0] 24))
  have HR1 := Lib.hid (HRI.out.below HB1.out)
  generalize w.alloc (.cells #[Value.int .i64 0, Value.int .i64 0, Value.int .i64 0, Value.int .i64 0, Value.slice none 0 0] 24) = W1 at *
  have c0 := HR1.out.rd_ (k := 0) rfl
  rw [Addr.add_zero'] at c0
  have c1 := HR1.out.rd_ (k := 1) rfl
  have c2 := HR1.out.rd_ (k := 2) rfl
  by_cases hneg : f0 < 0
  · have HRES := Lib.hid (show refNode16 [f0, f1, f2, f3, f4, f5, f6, f7, f8, f9, f10, f11, f12, f13, f14, f15] = (PNode.zero, 90) by unfold refNode16; exact if_pos (.inl hneg))
    go_wp2_with (first
      | (refine wpList_store_row rfl 24 _ _ rfl w.heap.size #[Value.int .i64 0, Value.int .i64 0, Value.int .i64 0, Value.int .i64 0, Value.slice none 0 0] rfl rfl 24 #[Value.int .i64 0, Value.int .i64 0, Value.int .i64 0, Value.int .i64 0, Value.slice none 0 0] HZ.out (by kernel_rfl) rfl (by simp [Value.oneCell']) ?_))
    exact bodyPost_ret (res_rnode rfl rfl (setRow_heap _ _ _ _ _ _ HZ.out)) rfl ⟨_, by rw [HRES.out]; rfl, by rw [HRES.out]; exact Kd.R_nil _ _ _ _ _, below_setRow HB1.out (Nat.le_refl _) _⟩
  by_cases hh : wrap64 (f0 - 1152921504606846976) < 0
  · have HRES := Lib.hid (show refNode16 [f0, f1, f2, f3, f4, f5, f6, f7, f8, f9, f10, f11, f12, f13, f14, f15] = (PNode.zero, 90) by unfold refNode16; exact if_pos (.inr hh))
    go_wp2_with (first
      | (refine wpList_store_row rfl 24 _ _ rfl w.heap.size #[Value.int .i64 0, Value.int .i64 0, Value.int .i64 0, Value.int .i64 0, Value.slice none 0 0] rfl rfl 24 #[Value.int .i64 0, Value.int .i64 0, Value.int .i64 0, Value.int .i64 0, Value.slice none 0 0] HZ.out (by kernel_rfl) rfl (by simp [Value.oneCell']) ?_))
    exact bodyPost_ret (res_rnode rfl rfl (setRow_heap _ _ _ _ _ _ HZ.out)) rfl ⟨_, by rw [HRES.out]; rfl, by rw [HRES.out]; exact Kd.R_nil _ _ _ _ _, below_setRow HB1.out (Nat.le_refl _) _⟩
  have h0 : 0 ≤ wrap64 (f0 - 1152921504606846976) := by omega
  go_upto_region 7 with fail
  have HX := Lib.hid (show refNodeOf [f0, f1, f2, f3, f4, f5, f6, f7, f8, f9, f10, f11, f12, f13, f14, f15] = ⟨Int.tmod (wrap64 (f0 - 1152921504606846976)) 16, wrap64 (Int.tdiv (wrap64 (f0 - 1152921504606846976)) 16), f1, f2, [f3, f4, f5, f6, f7, f8, f9, f10, f11, f12, f13, f14, f15].takeWhile (fun x => decide (x ≠ 0))⟩ from rfl)
  have HNO := Lib.hid (show ¬ (f0 < 0 ∨ wrap64 (f0 - 1152921504606846976) < 0) by rintro (h | h); exact hneg h; exact hh h)
  clear hh hneg c0
  go_cut [8] (fun s wc => ∃ g, s = .pointer (some ⟨g, 0, none⟩) ∧ Hid (w.heap.size < g) ∧ Hid (wc.heap[g]? = some (.cells #[.int .i64 (Int.tmod (wrap64 (f0 - 1152921504606846976)) 16), .int .i64 (IntKind.i64.wrap (Int.tdiv (wrap64 (f0 - 1152921504606846976)) 16)), .int .i64 f1, .int .i64 f2, .slice none 0 0] 24 (0, 0))) ∧ Hid (wc.heap[w.heap.size]? = some (.cells #[Value.int .i64 0, Value.int .i64 0, Value.int .i64 0, Value.int .i64 0, Value.slice none 0 0] 24 (0, 0))) ∧ Hid (Below w.heap.size w wc))
  case first =>
    have mixed : Try.prog.follows .mixedOrders = true := by kernel_rfl
    have d1 : W1.cell? ⟨(ad.add (16 * b)).block, (ad.add (16 * b)).off + 1, none⟩ = some (.int .i64 f1) := c1
    have d2 : W1.cell? ⟨(ad.add (16 * b)).block, (ad.add (16 * b)).off + 2, none⟩ = some (.int .i64 f2) := c2
    generalize ad.add (16 * b) = ad2 at *
    have z1 := World.new_ne W1.drew _ d1
    have z2 := World.new_ne W1.drew _ d2
    clear c1 c2
    go_region_held3 (fun w' : World => w'.cell? ⟨ad2.block, ad2.off + 1, none⟩ = some (.int .i64 f1) ∧ w'.cell? ⟨ad2.block, ad2.off + 2, none⟩ = some (.int .i64 f2)) (go_keep) (fail)
    all_goals (go_wp2_with fail; go_meet; exact ⟨_, rfl, Lib.hid (Array.getElem?_eq_some_iff.1 HZ.out).1, Lib.hid (heap_alloc_new _ _), Lib.hid ((Below.heap_alloc _ _ _ (Array.getElem?_eq_some_iff.1 HZ.out).1).trans HZ.out), Lib.hid ((HB1.out.alloc HB1.out.size _).trans (Below.refl _ _).drew)⟩)
  case rest =>
  obtain ⟨g, rfl, HG, HN, HZ2, HB2⟩ := hcut
  obtain ⟨W2, rfl⟩ : ∃ W2 : World, W2 = wc := ⟨_, rfl⟩
  clear HZ HB1 HR1 c1 c2
  have ei : IntKind.i64.wrap (Int.tdiv (wrap64 (f0 - 1152921504606846976)) 16) = wrap64 (Int.tdiv (wrap64 (f0 - 1152921504606846976)) 16) := by unfold wrap64; exact IntKind.wrap_i64 _
  rw [ei] at HN
  clear ei
  generalize Int.tmod (wrap64 (f0 - 1152921504606846976)) 16 = lv at HN HX
  generalize wrap64 (Int.tdiv (wrap64 (f0 - 1152921504606846976)) 16) = tu at HN HX
  go_wp2
  go_loopw [9] (fun i wr => ∃ (m : Nat) (v : Value), 3 ≤ m ∧ m ≤ 16 ∧ i = .int .i64 m ∧ Hid (wr.ownsRow w.heap.size 3 1 v (m - 3) (ints ([f3, f4, f5, f6, f7, f8, f9, f10, f11, f12, f13, f14, f15].take (m - 3)))) ∧ Hid (∀ x ∈ [f3, f4, f5, f6, f7, f8, f9, f10, f11, f12, f13, f14, f15].take (m - 3), x ≠ 0) ∧ Hid (wr.heap[g]? = some (.cells #[.int .i64 lv, .int .i64 tu, .int .i64 f1, .int .i64 f2, v] 24 (0, 0))) ∧ Hid (wr.heap[w.heap.size]? = some (.cells #[Value.int .i64 0, Value.int .i64 0, Value.int .i64 0, Value.int .i64 0, Value.slice none 0 0] 24 (0, 0))) ∧ Hid (Below w.heap.size w wr)) (fun i _ => 16 - (intOf i).toNat)
  case atStart => exact ⟨3, _, by omega, by omega, rfl, Lib.hid (World.ownsRow_nil _ _ _ _), Lib.hid (by simp), HN, HZ2, HB2⟩
  case round =>
    obtain ⟨m, v, hm3, hm16, rfl, HO, HNZ, HN3, HZ3, HB3⟩ := hrel
    obtain ⟨wo, rfl⟩ : ∃ wo : World, wo = wr := ⟨_, rfl⟩
    by_cases hlt : m < 16
    · obtain ⟨x, hx⟩ : ∃ x, [f0, f1, f2, f3, f4, f5, f6, f7, f8, f9, f10, f11, f12, f13, f14, f15][m]? = some x := ⟨_, List.getElem?_eq_getElem (by simpa using hlt)⟩
      have hc := (HRI.out.below HB3.out).rd_ hx
      by_cases hx0 : x = 0
      · subst hx0
        have hends := ends_take [f3, f4, f5, f6, f7, f8, f9, f10, f11, f12, f13, f14, f15] (m - 3) HNZ.out (.inr (by
            have e := hx
            rw [show m = 3 + (m - 3) by omega, ← List.getElem?_drop] at e
            exact e))
        obtain ⟨sl, hsl2⟩ : ∃ sl, sl = [f3, f4, f5, f6, f7, f8, f9, f10, f11, f12, f13, f14, f15].take (m - 3) := ⟨_, rfl⟩
        have hll : sl.length = m - 3 := by rw [hsl2, List.length_take]; simp; omega
        have ho := HO.out
        have hxx := HX.out
        rw [hends] at hxx
        rw [← hsl2] at ho hxx
        rw [← hll] at ho
        obtain ⟨A1, c1, rfl, hc1, hri1⟩ := own_cap (xs := sl) ho
        have HO1 := Lib.hid ho
        have HWC := Lib.hid (fun r1 r2 (hr : (if nodeOk lv tu f1 f2 sl = true then (nodeWords lv tu f1 f2 sl, (0 : Int)) else ([], 90)) = (r1, r2)) => RR.lamplighterref09_Words.calls 100 lv tu f1 f2 A1 c1 sl r1 r2 wo (C_of_RI hri1 (by omega)) hc1 (by rw [refnw_f 100 lv tu f1 f2 sl (by omega) (by omega), hr]))
        have HXX := Lib.hid hxx
        have HLL := Lib.hid hll
        have HRI0 := Lib.hid (HRI.out.below HB3.out)
        have hcw : 16 ≤ c - 16 * b := by omega
        clear ho hxx hri1 hends hsl2 HO HNZ HX hll
        have hg0 : g < wo.heap.size := (Array.getElem?_eq_some_iff.1 HN3.out).1
        have hg1 : w.heap.size < wo.heap.size := (Array.getElem?_eq_some_iff.1 HZ3.out).1
        by_cases hok : nodeOk lv tu f1 f2 sl = true
        · skip
          have hlen13 : sl.length ≤ 13 := by have := HLL.out; omega
          replace HWC := Lib.hid (HWC.out _ _ (if_pos hok))
          have hwl : (nodeWords lv tu f1 f2 sl).length = 16 := by unfold nodeWords; simp; omega
          obtain ⟨q, hq⟩ : ∃ q : Bool, q = (nodeWords lv tu f1 f2 sl == [f0, f1, f2, f3, f4, f5, f6, f7, f8, f9, f10, f11, f12, f13, f14, f15]) := ⟨_, rfl⟩
          have HRES := Lib.hid (refNode_ok [f0, f1, f2, f3, f4, f5, f6, f7, f8, f9, f10, f11, f12, f13, f14, f15] _ q HNO.out HXX.out hok hq)
          have HQ := Lib.hid hq
          obtain ⟨NW, hNW⟩ : ∃ NW, NW = nodeWords lv tu f1 f2 sl := ⟨_, rfl⟩
          rw [← hNW] at HWC HQ hwl
          have HWL := Lib.hid hwl
          clear hq hok HNO HXX hNW hwl hlen13
          cases q with
          | false =>
            go_wp2_with (first
              | (refine wpList_load_row rfl 24 _ rfl g rfl 24 #[Value.int .i64 lv, Value.int .i64 tu, Value.int .i64 f1, Value.int .i64 f2, Value.slice A1 sl.length c1] (0, 0) _ HN3.out Try.underlying24 rfl (by kernel_rfl) ?_)
              | (go_at_call 77; refine HWC.out.mono ?_; rintro e w5 ⟨v5, rfl, hR5, hB5⟩; obtain ⟨A5, c5, rfl, hc5, hC5⟩ := Kd.R_reads hR5)
              | (go_at_call 78; refine (nums_call A5 c5 NW (some (ad.add (16 * b))) 16 (c - 16 * b) _ false _ hC5 hc5 (HRI0.out.below hB5) hcw (by rw [HWL.out]; omega) (by omega) HQ.out).mono ?_; rintro e w6 ⟨rfl, hD6⟩; have hb6 := hB5.next hD6.below; have hz6 := (hb6.block _ hg1).trans HZ3.out; have hn6 := (hb6.block _ hg0).trans HN3.out)
              | (refine wpList_store_row rfl 24 _ _ rfl w.heap.size #[Value.int .i64 0, Value.int .i64 0, Value.int .i64 0, Value.int .i64 0, Value.slice none 0 0] rfl rfl 24 #[Value.int .i64 0, Value.int .i64 0, Value.int .i64 0, Value.int .i64 0, Value.slice none 0 0] hz6 (by kernel_rfl) rfl (by simp [Value.oneCell']) ?_))
            exact bodyPost_ret (res_rnode rfl rfl (setRow_heap _ _ _ _ _ _ hz6)) rfl ⟨_, by rw [HRES.out]; rfl, by rw [HRES.out]; exact Kd.R_nil _ _ _ _ _, below_setRow (HB3.out.next hb6) (Nat.le_refl _) _⟩
          | true =>
            go_wp2_with (first
              | (refine wpList_load_row rfl 24 _ rfl g rfl 24 #[Value.int .i64 lv, Value.int .i64 tu, Value.int .i64 f1, Value.int .i64 f2, Value.slice A1 sl.length c1] (0, 0) _ HN3.out Try.underlying24 rfl (by kernel_rfl) ?_)
              | (refine wpList_load_row rfl 24 _ rfl g rfl 24 #[Value.int .i64 lv, Value.int .i64 tu, Value.int .i64 f1, Value.int .i64 f2, Value.slice A1 sl.length c1] (0, 0) _ hn6 Try.underlying24 rfl (by kernel_rfl) ?_)
              | (go_at_call 77; refine HWC.out.mono ?_; rintro e w5 ⟨v5, rfl, hR5, hB5⟩; obtain ⟨A5, c5, rfl, hc5, hC5⟩ := Kd.R_reads hR5)
              | (go_at_call 78; refine (nums_call A5 c5 NW (some (ad.add (16 * b))) 16 (c - 16 * b) _ true _ hC5 hc5 (HRI0.out.below hB5) hcw (by rw [HWL.out]; omega) (by omega) HQ.out).mono ?_; rintro e w6 ⟨rfl, hD6⟩; have hb6 := hB5.next hD6.below; have hz6 := (hb6.block _ hg1).trans HZ3.out; have hn6 := (hb6.block _ hg0).trans HN3.out)
              | (refine wpList_store_row rfl 24 _ _ rfl w.heap.size #[Value.int .i64 lv, Value.int .i64 tu, Value.int .i64 f1, Value.int .i64 f2, Value.slice A1 sl.length c1] rfl rfl 24 #[Value.int .i64 0, Value.int .i64 0, Value.int .i64 0, Value.int .i64 0, Value.slice none 0 0] hz6 (by kernel_rfl) rfl (by simp [Value.oneCell']) ?_))
            exact bodyPost_ret (res_rnode rfl rfl (setRow_heap _ _ _ _ _ _ hz6)) rfl ⟨_, by rw [HRES.out]; rfl, by rw [HRES.out]; exact R_of_ints (own_box HO1.out hb6 HZ3.out (by decide)), below_setRow (HB3.out.next hb6) (Nat.le_refl _) _⟩
        · have HRES := Lib.hid (refNode_no [f0, f1, f2, f3, f4, f5, f6, f7, f8, f9, f10, f11, f12, f13, f14, f15] _ HNO.out HXX.out hok)
          replace HWC := Lib.hid (HWC.out _ _ (if_neg hok))
          clear HNO HXX hok
          go_wp2_with (first
            | (refine wpList_load_row rfl 24 _ rfl g rfl 24 #[Value.int .i64 lv, Value.int .i64 tu, Value.int .i64 f1, Value.int .i64 f2, Value.slice A1 sl.length c1] (0, 0) _ HN3.out Try.underlying24 rfl (by kernel_rfl) ?_)
            | (go_at_call 77; refine HWC.out.mono ?_; rintro e w5 ⟨v5, rfl, hR5, hB5⟩; obtain ⟨A5, c5, rfl, hc5, hC5⟩ := Kd.R_reads hR5; have hz6 := (hB5.block _ hg1).trans HZ3.out)
            | (refine wpList_store_row rfl 24 _ _ rfl w.heap.size #[Value.int .i64 0, Value.int .i64 0, Value.int .i64 0, Value.int .i64 0, Value.slice none 0 0] rfl rfl 24 #[Value.int .i64 0, Value.int .i64 0, Value.int .i64 0, Value.int .i64 0, Value.slice none 0 0] hz6 (by kernel_rfl) rfl (by simp [Value.oneCell']) ?_))
          exact bodyPost_ret (res_rnode rfl rfl (setRow_heap _ _ _ _ _ _ hz6)) rfl ⟨_, by rw [HRES.out]; rfl, by rw [HRES.out]; exact Kd.R_nil _ _ _ _ _, below_setRow (HB3.out.next hB5) (Nat.le_refl _) _⟩
      · have HX0 := Lib.hid hx0
        obtain ⟨A1, c1, rfl⟩ : ∃ A1 c1, v = .slice A1 (m - 3) c1 := by obtain ⟨A1, c1, e, _⟩ := own_form1 HO.out; exact ⟨A1, c1, e⟩
        obtain ⟨i0, hi0, hz0, hz1, hz2⟩ := info_parts int_info
        have hc4 : wo.cell? ⟨g, 4, none⟩ = some (.slice A1 (m - 3) c1) := by rw [cell_of_row _ _ _ _ _ _ HN3.out]; rfl
        have hgs : g < wo.heap.size := (Array.getElem?_eq_some_iff.1 HN3.out).1
        have hc5 : (wo.alloc (.cells #[.int .i64 x] 3)).drew.cell? ⟨g, 4, none⟩ = some (.slice A1 (m - 3) c1) := by
          have h1 : (wo.alloc (.cells #[.int .i64 x] 3)).drew.heap[g]? = wo.heap[g]? := Below.heap_alloc wo _ _ hgs
          rw [cell_of_row _ _ _ _ _ _ (h1.trans HN3.out)]; rfl
        have hmm : m - 3 + 1 ≤ 13 := by omega
        have HOW := Lib.hid (show (wo.alloc (.cells #[.int .i64 x] 3)).drew.ownsRow w.heap.size 3 1 (.slice A1 (m - 3) c1) (m - 3) _ from own_alloc_ HO.out (.cells #[.int .i64 x] 3))
        have HRE := Lib.hid (show Reads (wo.alloc (.cells #[.int .i64 x] 3)).drew (wo.heap.size + 1) 1 (some ⟨wo.heap.size, 0, none⟩) 1 [.int .i64 x] from reads_one wo (.int .i64 x) 3)
        have hsz : w.heap.size ≤ (wo.alloc (.cells #[.int .i64 x] 3)).drew.heap.size := by have := HB3.out.size; show _ ≤ (wo.alloc (.cells #[.int .i64 x] 3)).heap.size; simp; omega
        go_upto_region 11 with fail
        have mixed : Try.prog.follows .mixedOrders = true := by kernel_rfl
        go_region_law (refine step_append_any _ rfl (.tmp 70) (.tmp 75) 22 rfl w.heap.size 3 i0 (.int .i64 0) 1 8 Try.underlying22 hi0 hz0 hz1 hz2 rfl (by omega) (.slice A1 (m - 3) c1) (m - 3) _ rfl HOW.out _ (some ⟨wo.heap.size, 0, none⟩) 1 1 [.int .i64 x] rfl HRE.out (by simp [Value.oneCell']) (by simp only [maxLen]; omega) (by omega) hsz ?_; intro v2 w2 hown2 hg2 hat2; obtain ⟨A2, c2, rfl, _⟩ := own_form1 hown2; have hn2 := kept_node HN3.out (by decide) HO.out hg2; have hcc : w2.cell? ⟨g, 4, none⟩ = some (.slice A1 (m - 3) c1) := by { rw [cell_of_row _ _ _ _ _ _ hn2]; rfl }; have hff : w2.frozen? ⟨g, 4, none⟩ = false := frozen_of_row _ _ _ _ _ hn2)
        all_goals
          have hle : 3 ≤ m := hm3
          have hx3 : [f3, f4, f5, f6, f7, f8, f9, f10, f11, f12, f13, f14, f15][m - 3]? = some x := by
            have e := hx
            rw [show m = 3 + (m - 3) by omega, ← List.getElem?_drop] at e
            exact e
          have hown3 := own_setNode (i := 4) (u := .slice A2 (m - 3 + 1) c2) hown2 hn2 (by decide)
          have hn3 : (w2.setCell ⟨g, 4, none⟩ (.slice A2 (m - 3 + 1) c2)).heap[g]? = some (.cells #[.int .i64 lv, .int .i64 tu, .int .i64 f1, .int .i64 f2, .slice A2 (m - 3 + 1) c2] 24 (0, 0)) := heap_setCell_same _ _ _ _ _ _ hn2
          have hz3 := (Below.heap_setCell w2 ⟨g, 4, none⟩ (.slice A2 (m - 3 + 1) c2) w.heap.size (by have := HG.out; simp; omega)).trans (kept_node HZ3.out (by decide) HO.out hg2)
          have hb3 : Below w.heap.size w (w2.setCell ⟨g, 4, none⟩ (.slice A2 (m - 3 + 1) c2)) := (((HB3.out.alloc HB3.out.size _).drew).grown hg2 hsz (fun q hq => own_ge HO.out hq)).setCell (p := ⟨g, 4, none⟩) (by have := HG.out; simp; omega) _
          have ht3 : ints ([f3, f4, f5, f6, f7, f8, f9, f10, f11, f12, f13, f14, f15].take (m - 3 + 1)) = ints ([f3, f4, f5, f6, f7, f8, f9, f10, f11, f12, f13, f14, f15].take (m - 3)) ++ [.int .i64 x] := by rw [List.take_add_one, hx3]; unfold ints; rw [List.map_append]; rfl
          have hnz3 : ∀ y ∈ [f3, f4, f5, f6, f7, f8, f9, f10, f11, f12, f13, f14, f15].take (m - 3 + 1), y ≠ 0 := by
            rw [List.take_add_one, hx3]
            intro y hy
            rcases List.mem_append.1 hy with h | h
            · exact HNZ.out y h
            · obtain rfl : y = x := by simpa using h
              exact HX0.out
          rw [← ht3] at hown3
          have H1 := Lib.hid hown3
          have H2 := Lib.hid hn3
          have H3 := Lib.hid hz3
          have H4 := Lib.hid hb3
          have H5 := Lib.hid hnz3
          clear hown3 hn3 hz3 hb3 hnz3 ht3 hx3 hn2 hcc hff hown2 hg2 hat2
          generalize w2.setCell ⟨g, 4, none⟩ (.slice A2 (m - 3 + 1) c2) = w4 at *
          go_wp2
          go_roundw
          case rel => exact ⟨m + 1, _, by omega, by omega, by go_num, by rw [show m + 1 - 3 = m - 3 + 1 by omega]; exact H1, by rw [show m + 1 - 3 = m - 3 + 1 by omega]; exact H5, H2, H3, H4⟩
          case measure => simp [intOf]; omega
    · have hends := ends_take [f3, f4, f5, f6, f7, f8, f9, f10, f11, f12, f13, f14, f15] (m - 3) HNZ.out (.inl (by simp; omega))
      obtain ⟨sl, hsl2⟩ : ∃ sl, sl = [f3, f4, f5, f6, f7, f8, f9, f10, f11, f12, f13, f14, f15].take (m - 3) := ⟨_, rfl⟩
      have hll : sl.length = m - 3 := by rw [hsl2, List.length_take]; simp; omega
      have ho := HO.out
      have hxx := HX.out
      rw [hends] at hxx
      rw [← hsl2] at ho hxx
      rw [← hll] at ho
      obtain ⟨A1, c1, rfl, hc1, hri1⟩ := own_cap (xs := sl) ho
      have HO1 := Lib.hid ho
      have HWC := Lib.hid (fun r1 r2 (hr : (if nodeOk lv tu f1 f2 sl = true then (nodeWords lv tu f1 f2 sl, (0 : Int)) else ([], 90)) = (r1, r2)) => RR.lamplighterref09_Words.calls 100 lv tu f1 f2 A1 c1 sl r1 r2 wo (C_of_RI hri1 (by omega)) hc1 (by rw [refnw_f 100 lv tu f1 f2 sl (by omega) (by omega), hr]))
      have HXX := Lib.hid hxx
      have HLL := Lib.hid hll
      have HRI0 := Lib.hid (HRI.out.below HB3.out)
      have hcw : 16 ≤ c - 16 * b := by omega
      clear ho hxx hri1 hends hsl2 HO HNZ HX hll
      have hg0 : g < wo.heap.size := (Array.getElem?_eq_some_iff.1 HN3.out).1
      have hg1 : w.heap.size < wo.heap.size := (Array.getElem?_eq_some_iff.1 HZ3.out).1
      by_cases hok : nodeOk lv tu f1 f2 sl = true
      · skip
        have hlen13 : sl.length ≤ 13 := by have := HLL.out; omega
        replace HWC := Lib.hid (HWC.out _ _ (if_pos hok))
        have hwl : (nodeWords lv tu f1 f2 sl).length = 16 := by unfold nodeWords; simp; omega
        obtain ⟨q, hq⟩ : ∃ q : Bool, q = (nodeWords lv tu f1 f2 sl == [f0, f1, f2, f3, f4, f5, f6, f7, f8, f9, f10, f11, f12, f13, f14, f15]) := ⟨_, rfl⟩
        have HRES := Lib.hid (refNode_ok [f0, f1, f2, f3, f4, f5, f6, f7, f8, f9, f10, f11, f12, f13, f14, f15] _ q HNO.out HXX.out hok hq)
        have HQ := Lib.hid hq
        obtain ⟨NW, hNW⟩ : ∃ NW, NW = nodeWords lv tu f1 f2 sl := ⟨_, rfl⟩
        rw [← hNW] at HWC HQ hwl
        have HWL := Lib.hid hwl
        clear hq hok HNO HXX hNW hwl hlen13
        cases q with
        | false =>
          go_wp2_with (first
            | (refine wpList_load_row rfl 24 _ rfl g rfl 24 #[Value.int .i64 lv, Value.int .i64 tu, Value.int .i64 f1, Value.int .i64 f2, Value.slice A1 sl.length c1] (0, 0) _ HN3.out Try.underlying24 rfl (by kernel_rfl) ?_)
            | (go_at_call 77; refine HWC.out.mono ?_; rintro e w5 ⟨v5, rfl, hR5, hB5⟩; obtain ⟨A5, c5, rfl, hc5, hC5⟩ := Kd.R_reads hR5)
            | (go_at_call 78; refine (nums_call A5 c5 NW (some (ad.add (16 * b))) 16 (c - 16 * b) _ false _ hC5 hc5 (HRI0.out.below hB5) hcw (by rw [HWL.out]; omega) (by omega) HQ.out).mono ?_; rintro e w6 ⟨rfl, hD6⟩; have hb6 := hB5.next hD6.below; have hz6 := (hb6.block _ hg1).trans HZ3.out; have hn6 := (hb6.block _ hg0).trans HN3.out)
            | (refine wpList_store_row rfl 24 _ _ rfl w.heap.size #[Value.int .i64 0, Value.int .i64 0, Value.int .i64 0, Value.int .i64 0, Value.slice none 0 0] rfl rfl 24 #[Value.int .i64 0, Value.int .i64 0, Value.int .i64 0, Value.int .i64 0, Value.slice none 0 0] hz6 (by kernel_rfl) rfl (by simp [Value.oneCell']) ?_))
          exact bodyPost_ret (res_rnode rfl rfl (setRow_heap _ _ _ _ _ _ hz6)) rfl ⟨_, by rw [HRES.out]; rfl, by rw [HRES.out]; exact Kd.R_nil _ _ _ _ _, below_setRow (HB3.out.next hb6) (Nat.le_refl _) _⟩
        | true =>
          go_wp2_with (first
            | (refine wpList_load_row rfl 24 _ rfl g rfl 24 #[Value.int .i64 lv, Value.int .i64 tu, Value.int .i64 f1, Value.int .i64 f2, Value.slice A1 sl.length c1] (0, 0) _ HN3.out Try.underlying24 rfl (by kernel_rfl) ?_)
            | (refine wpList_load_row rfl 24 _ rfl g rfl 24 #[Value.int .i64 lv, Value.int .i64 tu, Value.int .i64 f1, Value.int .i64 f2, Value.slice A1 sl.length c1] (0, 0) _ hn6 Try.underlying24 rfl (by kernel_rfl) ?_)
            | (go_at_call 77; refine HWC.out.mono ?_; rintro e w5 ⟨v5, rfl, hR5, hB5⟩; obtain ⟨A5, c5, rfl, hc5, hC5⟩ := Kd.R_reads hR5)
            | (go_at_call 78; refine (nums_call A5 c5 NW (some (ad.add (16 * b))) 16 (c - 16 * b) _ true _ hC5 hc5 (HRI0.out.below hB5) hcw (by rw [HWL.out]; omega) (by omega) HQ.out).mono ?_; rintro e w6 ⟨rfl, hD6⟩; have hb6 := hB5.next hD6.below; have hz6 := (hb6.block _ hg1).trans HZ3.out; have hn6 := (hb6.block _ hg0).trans HN3.out)
            | (refine wpList_store_row rfl 24 _ _ rfl w.heap.size #[Value.int .i64 lv, Value.int .i64 tu, Value.int .i64 f1, Value.int .i64 f2, Value.slice A1 sl.length c1] rfl rfl 24 #[Value.int .i64 0, Value.int .i64 0, Value.int .i64 0, Value.int .i64 0, Value.slice none 0 0] hz6 (by kernel_rfl) rfl (by simp [Value.oneCell']) ?_))
          exact bodyPost_ret (res_rnode rfl rfl (setRow_heap _ _ _ _ _ _ hz6)) rfl ⟨_, by rw [HRES.out]; rfl, by rw [HRES.out]; exact R_of_ints (own_box HO1.out hb6 HZ3.out (by decide)), below_setRow (HB3.out.next hb6) (Nat.le_refl _) _⟩
      · have HRES := Lib.hid (refNode_no [f0, f1, f2, f3, f4, f5, f6, f7, f8, f9, f10, f11, f12, f13, f14, f15] _ HNO.out HXX.out hok)
        replace HWC := Lib.hid (HWC.out _ _ (if_neg hok))
        clear HNO HXX hok
        go_wp2_with (first
          | (refine wpList_load_row rfl 24 _ rfl g rfl 24 #[Value.int .i64 lv, Value.int .i64 tu, Value.int .i64 f1, Value.int .i64 f2, Value.slice A1 sl.length c1] (0, 0) _ HN3.out Try.underlying24 rfl (by kernel_rfl) ?_)
          | (go_at_call 77; refine HWC.out.mono ?_; rintro e w5 ⟨v5, rfl, hR5, hB5⟩; obtain ⟨A5, c5, rfl, hc5, hC5⟩ := Kd.R_reads hR5; have hz6 := (hB5.block _ hg1).trans HZ3.out)
          | (refine wpList_store_row rfl 24 _ _ rfl w.heap.size #[Value.int .i64 0, Value.int .i64 0, Value.int .i64 0, Value.int .i64 0, Value.slice none 0 0] rfl rfl 24 #[Value.int .i64 0, Value.int .i64 0, Value.int .i64 0, Value.int .i64 0, Value.slice none 0 0] hz6 (by kernel_rfl) rfl (by simp [Value.oneCell']) ?_))
        exact bodyPost_ret (res_rnode rfl rfl (setRow_heap _ _ _ _ _ _ hz6)) rfl ⟨_, by rw [HRES.out]; rfl, by rw [HRES.out]; exact Kd.R_nil _ _ _ _ _, below_setRow (HB3.out.next hB5) (Nat.le_refl _) _⟩
theorem rnode_any (A : Option Addr) (c : Nat) (xs : List Int) (b : Int) (w : World) (h : RI w A xs.length xs) (hn : xs.length ≤ 60000) (hc : xs.length ≤ c) :
    Calls Try.prog 41 #[.slice A xs.length c, .int .i64 b] w (NodePost (nodeRead xs b) w) := by
  unfold nodeRead
  by_cases h0 : b < 0
  · rw [if_pos h0]
    exact rnode_bad A xs.length c b w (by omega) (.inl h0)
  · rw [if_neg h0]
    by_cases h1 : (xs.length : Int) / 16 ≤ b
    · rw [if_pos h1]
      exact rnode_bad A xs.length c b w (by omega) (.inr (.inr (by omega)))
    · rw [if_neg h1]
      obtain ⟨b, rfl⟩ := Int.eq_ofNat_of_zero_le (show 0 ≤ b by omega)
      rw [← refNode_is, Int.toNat_natCast]
      exact rnode_good A xs.length c xs b w h hn hc (by omega)
end Go.Proofs.Ytliaemoomhfcdaa
