/- The walk of slices.Insert at pairs, with one pair. -/
import Derived.Test.YtliaemoomhfcdaaGreatWithoutW
import Derived.Laws.Externs
import Derived.Shelf.RegionOpenPlain
namespace Go.Proofs.YtliaemoomhfcdaaGreat
open Go.RowKit Go.Proofs.YtliaemoomhfcdaaGreatW.PrintWords
set_option maxHeartbeats 4000000
set_option maxRecDepth 100000
set_option linter.unusedVariables false
set_option linter.unusedSimpArgs false
def insOf (l : List KV) (i : Nat) (x : KV) : List KV := l.take i ++ x :: l.drop i
def InsPost (n0 : Nat) (l : List KV) (i : Nat) (x : KV) (w : World) (e : Ending) (w' : World) : Prop :=
  ∃ v', e = .returned v' ∧ w'.ownsRow n0 45 2 v' (insOf l i x).length (flatP (insOf l i x)) ∧ Below n0 w w'
theorem insOf_len (l : List KV) (i : Nat) (x : KV) (hi : i ≤ l.length) : (insOf l i x).length = l.length + 1 := by unfold insOf; simp; omega
theorem insert_end (n0 : Nat) (v : Value) (l : List KV) (vb : Nat) (x : KV) (w : World) (hn0 : n0 ≤ w.heap.size) (hn : l.length + 1 ≤ 1000000000) (hrow : w.ownsRow n0 45 2 v l.length (flatP l))
    (hv : w.heap[vb]? = some (.cells #[.string x.1, .string x.2] 45 (0, 0))) :
    Calls Tryz.prog 32 #[v, .int .i64 l.length, .slice (some ⟨vb, 0, none⟩) 1 1] w (InsPost n0 l l.length x w) := by
  obtain ⟨i0, hi, hz0, hz1, hz2⟩ := info_parts infoP
  have hvc : ∀ j u, ([.string x.1, .string x.2] : List Value)[j]? = some u → w.cell? ((⟨vb, 0, none⟩ : Addr).add j) = some u := by
    intro j u hj
    rw [Addr.add_lit, Nat.zero_add]
    have h2 : w.cell? ⟨vb, j, none⟩ = (#[.string x.1, .string x.2] : Array Value)[j]? := by
      unfold World.cell?
      dsimp only
      rw [hv]
      simp
    rw [h2]
    simpa using hj
  have hIns : ∀ v' w', w'.ownsRow n0 45 2 v' (l.length + 1) (flatP l ++ [.string x.1, .string x.2]) → Below n0 w w' → InsPost n0 l l.length x w (.returned v') w' := by
    intro v' w' hr hb
    refine ⟨v', rfl, ?_, hb⟩
    rw [insOf_len _ _ _ (Nat.le_refl _)]
    unfold insOf
    rw [List.take_length, List.drop_length, flatP_app]
    exact hr
  have HIns := Lib.hid hIns
  have HVC := Lib.hid hvc
  have HR := Lib.hid hrow
  clear hIns hvc hv
  have hz1' : ¬ ((1 : Int) = 0) := by omega
  rcases id hrow.2 with ⟨rfl, h0⟩ | ⟨g, cap, cur, rfl, hgb, _, hnc, hcm, _⟩
  · have hl : l = [] := List.eq_nil_of_length_eq_zero h0
    subst hl
    clear hrow
    go_enter Tryz.func32, Tryz.ntmps32
    go_wp2_with (at_builtin; refine wpList_append_own _ rfl _ _ 23 rfl n0 45 i0 (.agg #[.string ⟨#[]⟩, .string ⟨#[]⟩]) 2 32 Tryz.underlying23 hi hz0 hz1 hz2 rfl (by decide) _ _ _ rfl HR.out ⟨vb, 0, none⟩ 1 1 [.string x.1, .string x.2] rfl rfl HVC.out (by simp [Value.oneCell']) (by unfold maxLen; omega) (by omega) hn0 ?_; intro v' w1 hown hgrow hnil)
    go_ret
    exact HIns.out v' w1 hown ((Below.refl _ w).grown hgrow hn0 (fun k hk => by cases hk))
  · clear hrow
    go_enter Tryz.func32, Tryz.ntmps32
    go_wp2_with (at_builtin; refine wpList_append_own _ rfl _ _ 23 rfl n0 45 i0 (.agg #[.string ⟨#[]⟩, .string ⟨#[]⟩]) 2 32 Tryz.underlying23 hi hz0 hz1 hz2 rfl (by decide) _ _ _ rfl HR.out ⟨vb, 0, none⟩ 1 1 [.string x.1, .string x.2] rfl rfl HVC.out (by simp [Value.oneCell']) (by unfold maxLen; omega) (by omega) hn0 ?_; intro v' w1 hown hgrow hnil)
    all_goals
      go_ret
      exact HIns.out v' w1 hown ((Below.refl _ w).grown hgrow hn0 (fun k hk => by have h : some g = some k := hk; injection h with h; omega))
theorem wp_copy2 {w : World} {o : Oper} {a : Act} {K : Act → World → Prop} {Q : Exit → Act → World → Prop} (d s : Operand) (t t' : TypeId)
    (ho : o.op = .call { callee := .builtin .copy, args := #[d, s], argTypes := #[t, t'] }) (v u : Value) (hd : a.eval d = v) (hs : a.eval s = u) {v' : Value} {w' : World}
    (hr : (Builtin.copy_ #[t, t'] o.type #[v, u]).run Tryz.prog w = .ok v' w') (h : K (a.put o.dst v') w') : o.wp Tryz.prog a w K Q := by
  unfold Oper.wp execOp
  simp only [ho, resolve, invoke, builtin, Sem.run_bind, Sem.run_pure, Result.andThen_ok, List.map_toArray, List.map_cons, List.map_nil, hd, hs, hr]
  exact h
theorem wpList_copy2 {w : World} {ops : Array Oper} {rest : List Oper} {o : Oper} {a : Act} {Q : Exit → Act → World → Prop} (hgd : o.guard = none) (d s : Operand) (t t' : TypeId)
    (ho : o.op = .call { callee := .builtin .copy, args := #[d, s], argTypes := #[t, t'] }) (v u : Value) (hd : a.eval d = v) (hs : a.eval s = u) {v' : Value} {w' : World}
    (hr : (Builtin.copy_ #[t, t'] o.type #[v, u]).run Tryz.prog w = .ok v' w') (h : wpList Tryz.prog ops Q rest (a.put o.dst v') w') : wpList Tryz.prog ops Q (o :: rest) a w :=
  wpList_plain hgd fun _ hK => wp_copy2 d s t t' ho v u hd hs hr (hK _ _ h)
theorem step_copy2 {ops : Array Oper} {o : Oper} {a : Act} {w : World} {K : Act → World → Prop} {Q : Exit → Act → World → Prop} {E : Prop}
    (hg : o.guard = none) (d x : Operand) (dT sT : TypeId) (hop : o.op = Op.call { callee := Callee.builtin Builtin.copy, args := #[d, x], argTypes := #[dT, sT] })
    (v u : Value) (hd : a.eval d = v) (hx : a.eval x = u) {v' : Value} {w' : World} (hr : (Builtin.copy_ #[dT, sT] o.type #[v, u]).run Tryz.prog w = .ok v' w') (hK : K (a.put o.dst v') w') :
    if Region.wanted o (yielded ops a.tmps) = true then Oper.wp Tryz.prog o a w K Q else E := by
  have hw : Region.wanted o (yielded ops a.tmps) = true := by simp [Region.wanted, hg]
  rw [if_pos hw]
  unfold Oper.wp
  simp [execOp, hop, resolve, invoke, builtin, hd, hx, hr, Result.andThen]
  exact hK
theorem infoP2 : (Tryz.prog.info? 45).map (·.size) = some 2 := by kernel_rfl
theorem run_overlaps_no (w : World) (vb g o la ca lb cb : Nat) (cv cur : Array Value) (hne : vb ≠ g) (hv : w.heap[vb]? = some (.cells cv 45 (0, 0))) (hg : w.heap[g]? = some (.cells cur 45 (0, 0))) (hk : cur.size ≠ 0) :
    (callFunc 58 #[.slice (some ⟨vb, 0, none⟩) la ca, .slice (some ⟨g, o, none⟩) lb cb]).run Tryz.prog w = .ok (.value (.bool false)) w := by
  rw [run_callFunc_extern Tryz.func58 (by kernel_rfl) (by kernel_rfl) (by kernel_rfl) (e := Extern.SlicesOverlaps.overlaps #[23, 23] #[4]) (by kernel_rfl),
    Lib.run_overlaps_apart w 23 4 45 Tryz.underlying23 2 Tryz.sizeOf45 ⟨vb, 0, none⟩ ⟨g, o, none⟩ la ca lb cb hne 45 45 cv.size cur.size (by simp [World.shape?, hv]) (by simp [World.shape?, hg]) hk (by simp [World.frozen?, hv]) (by simp [World.frozen?, hv])]
  rfl
theorem ins_take (l : List KV) (i : Nat) (x : KV) (rest : List Value) (hi : i ≤ l.length) :
    ((flatP (l.take i) ++ [Value.string x.1, Value.string x.2] ++ (flatP (l.drop i) ++ rest)).toArray.toList).take ((l.length + 1) * 2) = flatP (insOf l i x) := by
  have e : flatP (insOf l i x) = flatP (l.take i) ++ [Value.string x.1, Value.string x.2] ++ flatP (l.drop i) := by
    unfold insOf
    rw [flatP_app]
    simp [flatP]
  rw [e, ← List.append_assoc]
  refine List.take_left' ?_
  simp only [List.length_append, flatP_len, List.length_take, List.length_drop, List.length_cons, List.length_nil]
  omega
theorem insert_room (n0 g cap : Nat) (l : List KV) (i vb : Nat) (x : KV) (w : World) (hn0 : n0 ≤ w.heap.size) (hn : l.length + 1 ≤ 1000000000) (hi : i < l.length) (hroom : l.length + 1 ≤ cap) (hrow : w.ownsRow n0 45 2 (.slice (some ⟨g, 0, none⟩) l.length cap) l.length (flatP l))
    (hv : w.heap[vb]? = some (.cells #[.string x.1, .string x.2] 45 (0, 0))) (hvg : vb ≠ g) :
    Calls Tryz.prog 32 #[.slice (some ⟨g, 0, none⟩) l.length cap, .int .i64 i, .slice (some ⟨vb, 0, none⟩) 1 1] w (InsPost n0 l i x w) := by
  obtain ⟨cur, hg, hb, h1, h2, h3, h4⟩ := row2_get hrow
  have hov : ∀ lb cb, (callFunc 58 #[.slice (some ⟨vb, 0, none⟩) 1 1, .slice (some ⟨g, (i + 1) * 2, none⟩) lb cb]).run Tryz.prog w = .ok (.value (.bool false)) w :=
    fun lb cb => run_overlaps_no w vb g _ _ _ lb cb _ cur hvg hv hg (by omega)
  have hz1 : ¬ ((1 : Int) = 0) := by omega
  have hz2 : ¬ ((i : Int) = (l.length : Int)) := by omega
  have hb4 : ¬ (cap = i) := by omega
  have hb5 : ¬ (cap = i + 1) := by omega
  have hw1 : IntKind.i64.wrap ((i : Int) + 1) = (i : Int) + 1 := by rw [IntKind.wrap_i64]; omega
  have hw2 : IntKind.i64.wrap ((l.length : Int) + 1) = (l.length : Int) + 1 := by rw [IntKind.wrap_i64]; omega
  have hg1 : ¬ (cap : Int) < (l.length : Int) + 1 := by omega
  have mixed : Tryz.prog.follows .mixedOrders = true := by kernel_rfl
  have hb1 : (0 : Int) ≤ (i : Int) + 1 := by omega
  have hil : i ≤ l.length := by omega
  have hb3 : (i : Int) ≤ (l.length : Int) + 1 := by omega
  have hil1 : i ≤ l.length + 1 := by omega
  have hcm : cap ≤ 9223372036854775807 := by unfold maxLen at h2; omega
  have hdl : (flatP (l.drop i)).length = (l.length - i) * 2 := by rw [flatP_len, List.length_drop]
  obtain ⟨X1, hX1⟩ : ∃ X1 : List Value, X1 = cur.toList.take ((i + 1) * 2) ++ flatP (l.drop i) ++ cur.toList.drop ((i + 1) * 2 + (flatP (l.drop i)).length) := ⟨_, rfl⟩
  have hX1l : X1.length = cap * 2 := by rw [hX1]; simp [hdl]; omega
  have hsrc : ∀ j u, (flatP (l.drop i))[j]? = some u → w.drew.cell? ((⟨g, i * 2, none⟩ : Addr).add j) = some u := by
    intro j u hj
    rw [Addr.add_lit]
    rw [← flatP_drop, List.getElem?_drop] at hj
    have := C_cells2 (C_own2 hrow) _ _ hj
    rw [Addr.add_lit, Nat.zero_add] at this
    exact this
  have hcp1 : ∀ ty dc sc, (Builtin.copy_ #[23, 23] ty #[.slice (some ⟨g, (i + 1) * 2, none⟩) (l.length - i) dc, .slice (some ⟨g, i * 2, none⟩) (l.length + 1 - i) sc]).run Tryz.prog w.drew = .ok (goInt (Nat.min (l.length + 1 - i) (l.length - i))) (w.drew.setRow g X1.toArray) := by
    intro ty dc sc
    rw [hX1]
    exact run_copy_row2 w.drew 23 23 ty 45 g _ _ dc _ _ sc cur 45 _ Tryz.underlying23 infoP2 hg (by rw [hdl]; congr 1; simp only [Nat.min_def]; split <;> omega) hsrc (by rw [hdl]; omega) (flatP_one _)
  obtain ⟨W1, hW1⟩ : ∃ W1, W1 = w.drew.setRow g X1.toArray := ⟨_, rfl⟩
  have hg1r : W1.heap[g]? = some (.cells X1.toArray 45 (0, 0)) := by rw [hW1]; exact setRow_heap w.drew g cur X1.toArray 45 (0, 0) hg
  have hv1 : W1.heap[vb]? = some (.cells #[.string x.1, .string x.2] 45 (0, 0)) := by rw [hW1]; exact (setRow_other w.drew g vb _ hvg).trans hv
  have hBW1 : Below n0 w W1 := by rw [hW1]; exact below_setRow (pw_below_drewN_ (Below.refl n0 w) 1) hb _
  obtain ⟨X2, hX2⟩ : ∃ X2 : List Value, X2 = X1.take (i * 2) ++ [.string x.1, .string x.2] ++ X1.drop (i * 2 + 2) := ⟨_, rfl⟩
  have hcp2 : ∀ ty dc, (Builtin.copy_ #[23, 23] ty #[.slice (some ⟨g, i * 2, none⟩) (l.length + 1 - i) dc, .slice (some ⟨vb, 0, none⟩) 1 1]).run Tryz.prog W1 = .ok (goInt (Nat.min 1 (l.length + 1 - i))) (W1.setRow g X2.toArray) := by
    intro ty dc
    have := run_copy_row2 (P := Tryz.prog) W1 23 23 ty 45 g (i * 2) (l.length + 1 - i) dc ⟨vb, 0, none⟩ 1 1 X1.toArray 45 [.string x.1, .string x.2] Tryz.underlying23 infoP2 hg1r (by simp only [Nat.min_def]; split <;> simp <;> omega)
      (fun j u hj => by
        rw [Addr.add_lit, Nat.zero_add]
        have h2 : W1.cell? ⟨vb, j, none⟩ = (#[.string x.1, .string x.2] : Array Value)[j]? := by
          unfold World.cell?
          dsimp only
          rw [hv1]
          simp
        rw [h2]
        simpa using hj) (by simp [hX1l]; omega) (by simp [Value.oneCell'])
    rw [this, hX2]
    simp
  rw [← hW1] at hcp1
  have hfin : InsPost n0 l i x w (.returned (.slice (some ⟨g, 0, none⟩) (l.length + 1) cap)) (W1.setRow g X2.toArray) := by
    refine ⟨_, rfl, ?_, hBW1.trans (below_setRow (Below.refl _ _) hb _)⟩
    rw [insOf_len _ _ _ (by omega)]
    refine row2_mk (setRow_heap W1 g X1.toArray X2.toArray 45 (0, 0) hg1r) hb hroom h2 ?_ ?_
    · rw [List.size_toArray, hX2]; simp [hX1l]; omega
    · have hcl : (cur.toList.take ((i + 1) * 2)).length = i * 2 + 2 := by rw [List.length_take, Array.length_toList]; omega
      have e1 : X1.take (i * 2) = flatP (l.take i) := by
        rw [hX1, List.append_assoc, List.take_append_of_le_length (by omega), List.take_take, ← flatP_take, ← h4, List.take_take]
        congr 1
        omega
      have e2 : X1.drop (i * 2 + 2) = flatP (l.drop i) ++ cur.toList.drop ((i + 1) * 2 + (flatP (l.drop i)).length) := by
        rw [hX1, List.append_assoc]
        exact List.drop_left' hcl
      rw [hX2, e1, e2]
      exact ins_take l i x _ (by omega)
  have HFIN := Lib.hid hfin
  clear hfin hBW1 hv1 hg1r hsrc hX1 hX2 hX1l hW1 hdl h3 h4 hg hv hrow
  go_enter Tryz.func32, Tryz.ntmps32
  go_wp2_with (simp only [hov])
  go_region_law_o (refine step_copy2 rfl _ _ 23 23 rfl _ _ (by simp [Act.eval, Act.put]) (by simp [Act.eval, Act.put]) (hcp1 _ _ _) ?_)
  go_wp2_with (at_builtin; refine wpList_copy2 rfl _ _ 23 23 rfl _ _ rfl rfl (hcp2 _ _) ?_)
  go_ret
  exact HFIN.out
theorem infoZ : (Tryz.prog.info? 45).map (fun i => (i.zero, i.size, i.bytes)) = some (some zP, 2, 32) := by kernel_rfl
theorem insert_grow (n0 g cap : Nat) (l : List KV) (i vb : Nat) (x : KV) (w : World) (hn0 : n0 ≤ w.heap.size) (hn : l.length + 1 ≤ 1000000000) (hi : i < l.length) (hroom : cap < l.length + 1) (hrow : w.ownsRow n0 45 2 (.slice (some ⟨g, 0, none⟩) l.length cap) l.length (flatP l))
    (hv : w.heap[vb]? = some (.cells #[.string x.1, .string x.2] 45 (0, 0))) :
    Calls Tryz.prog 32 #[.slice (some ⟨g, 0, none⟩) l.length cap, .int .i64 i, .slice (some ⟨vb, 0, none⟩) 1 1] w (InsPost n0 l i x w) := by
  obtain ⟨i0, hi0, hz0, hzs, hzb⟩ := info_parts infoZ
  obtain ⟨cur, hg, hb, h1, h2, h3, h4⟩ := row2_get hrow
  have hglt := (Array.getElem?_eq_some_iff.1 hg).1
  have hvlt := (Array.getElem?_eq_some_iff.1 hv).1
  have hold : ∀ j u, (flatP (l.take i))[j]? = some u → w.cell? ((⟨g, 0, none⟩ : Addr).add j) = some u := by
    intro j u hj
    rw [← flatP_take, List.getElem?_take] at hj
    split at hj
    · exact C_cells2 (C_own2 hrow) _ _ hj
    · cases hj
  have hrun := run_append_zeros2 (P := Tryz.prog) w 23 3 23 45 i0 .i64 .i64 Tryz.underlying23 Tryz.underlying3 hi0 hz0 hzs hzb ⟨g, 0, none⟩ i cap (l.length + 1 - i) (flatP (l.take i)) (by rw [flatP_len, List.length_take]; omega) hold (by omega) (by omega) (by omega)
  rw [show i + (l.length + 1 - i) = l.length + 1 from by omega, show (((l.length + 1 - i : Nat)) : Int) = (l.length : Int) + 1 - i from by omega] at hrun
  have hge := grownCap_ge w (l.length + 1) cap 45
  have hcm := grownCap_le_maxLen w (l.length + 1) cap 45 (by unfold maxLen; omega)
  generalize grownCap w (l.length + 1) cap 45 = nc at hrun hge hcm
  obtain ⟨C, hC⟩ : ∃ C : Array Value, C = (flatP (l.take i)).toArray ++ Builtin.zeroCells zP.cells (l.length + 1 - i) ++ Builtin.zeroCells zP.cells (nc - (l.length + 1)) := ⟨_, rfl⟩
  have hCs : C.size = nc * 2 := by
    rw [hC]
    have ez : zP.cells.size = 2 := rfl
    simp only [Array.size_append, List.size_toArray, size_zeroCells, ez, flatP_len, List.length_take]
    omega
  have hCt : C.toList.take (i * 2) = flatP (l.take i) := by
    rw [hC]
    simp only [Array.toList_append, List.append_assoc]
    refine List.take_left' ?_
    rw [flatP_len, List.length_take]; omega
  rw [← hC] at hrun
  obtain ⟨Wn, hWn⟩ : ∃ Wn, Wn = w.drew.alloc (.cells C 45) := ⟨_, rfl⟩
  rw [← hWn] at hrun
  have hgn : Wn.heap[w.heap.size]? = some (.cells C 45 (0, 0)) := by rw [hWn]; exact heap_alloc_new w.drew _
  have hBn : Below w.heap.size w Wn := by rw [hWn]; exact (pw_below_drewN_ (Below.refl _ w) 1).alloc (Nat.le_refl _) _
  obtain ⟨Y1, hY1⟩ : ∃ Y1 : List Value, Y1 = C.toList.take (i * 2) ++ [.string x.1, .string x.2] ++ C.toList.drop (i * 2 + 2) := ⟨_, rfl⟩
  have hY1l : Y1.length = nc * 2 := by rw [hY1]; simp [hCs]; omega
  have hcp1 : ∀ ty dc, (Builtin.copy_ #[23, 23] ty #[.slice (some ⟨w.heap.size, i * 2, none⟩) (l.length + 1 - i) dc, .slice (some ⟨vb, 0, none⟩) 1 1]).run Tryz.prog Wn = .ok (goInt (Nat.min 1 (l.length + 1 - i))) (Wn.setRow w.heap.size Y1.toArray) := by
    intro ty dc
    have := run_copy_row2 (P := Tryz.prog) Wn 23 23 ty 45 w.heap.size (i * 2) (l.length + 1 - i) dc ⟨vb, 0, none⟩ 1 1 C 45 [.string x.1, .string x.2] Tryz.underlying23 infoP2 hgn (by simp only [Nat.min_def]; split <;> simp <;> omega)
      (fun j u hj => by
        rw [Addr.add_lit, Nat.zero_add]
        have h2 : Wn.cell? ⟨vb, j, none⟩ = (#[.string x.1, .string x.2] : Array Value)[j]? := by
          unfold World.cell?
          dsimp only
          rw [(hBn.block vb hvlt).trans hv]
          simp
        rw [h2]
        simpa using hj) (by simp [hCs]; omega) (by simp [Value.oneCell'])
    rw [this, hY1]
    simp
  obtain ⟨W1, hW1⟩ : ∃ W1, W1 = Wn.setRow w.heap.size Y1.toArray := ⟨_, rfl⟩
  rw [← hW1] at hcp1
  have hg1 : W1.heap[w.heap.size]? = some (.cells Y1.toArray 45 (0, 0)) := by rw [hW1]; exact setRow_heap Wn w.heap.size C Y1.toArray 45 (0, 0) hgn
  have hB1 : Below w.heap.size w W1 := by rw [hW1]; exact below_setRow hBn (Nat.le_refl _) _
  have hdl : (flatP (l.drop i)).length = (l.length - i) * 2 := by rw [flatP_len, List.length_drop]
  have hsrc : ∀ j u, (flatP (l.drop i))[j]? = some u → W1.drew.cell? ((⟨g, i * 2, none⟩ : Addr).add j) = some u := by
    intro j u hj
    rw [Addr.add_lit]
    rw [← flatP_drop, List.getElem?_drop] at hj
    have := C_cells2 (C_own2 hrow) _ _ hj
    rw [Addr.add_lit, Nat.zero_add] at this
    exact (hB1.cell (p := ⟨g, i * 2 + j, none⟩) hglt).trans this
  obtain ⟨Y2, hY2⟩ : ∃ Y2 : List Value, Y2 = Y1.take ((i + 1) * 2) ++ flatP (l.drop i) ++ Y1.drop ((i + 1) * 2 + (flatP (l.drop i)).length) := ⟨_, rfl⟩
  have hcp2 : ∀ ty dc sc, (Builtin.copy_ #[23, 23] ty #[.slice (some ⟨w.heap.size, (i + 1) * 2, none⟩) (l.length - i) dc, .slice (some ⟨g, i * 2, none⟩) (l.length - i) sc]).run Tryz.prog W1.drew = .ok (goInt (Nat.min (l.length - i) (l.length - i))) (W1.drew.setRow w.heap.size Y2.toArray) := by
    intro ty dc sc
    rw [hY2]
    exact run_copy_row2 W1.drew 23 23 ty 45 w.heap.size _ _ dc _ _ sc Y1.toArray 45 _ Tryz.underlying23 infoP2 hg1 (by rw [hdl]; simp [Nat.min_def]) hsrc (by rw [hdl]; simp [hY1l]; omega) (flatP_one _)
  have hfin : InsPost n0 l i x w (.returned (.slice (some ⟨w.heap.size, 0, none⟩) (l.length + 1) nc)) (W1.drew.setRow w.heap.size Y2.toArray) := by
    refine ⟨_, rfl, ?_, below_setRow (pw_below_drewN_ (hB1.mono hn0) 1) hn0 _⟩
    rw [insOf_len _ _ _ (by omega)]
    refine row2_mk (setRow_heap W1.drew w.heap.size Y1.toArray Y2.toArray 45 (0, 0) hg1) hn0 hge hcm ?_ ?_
    · rw [List.size_toArray, hY2]; simp [hY1l, hdl]; omega
    · have e1 : Y1.take ((i + 1) * 2) = flatP (l.take i) ++ [.string x.1, .string x.2] := by
        rw [hY1, hCt]
        refine List.take_left' ?_
        simp only [List.length_append, flatP_len, List.length_take, List.length_cons, List.length_nil]
        omega
      rw [hY2, e1, List.append_assoc]
      exact ins_take l i x _ (by omega)
  have HFIN := Lib.hid hfin
  clear hfin hB1 hg1 hsrc hY1 hY2 hY1l hW1 hdl h3 h4 hg hv hrow hgn hBn hWn hCs hCt hC hold hglt hvlt
  have hz1 : ¬ ((1 : Int) = 0) := by omega
  have hz2 : ¬ ((i : Int) = (l.length : Int)) := by omega
  have hw1 : IntKind.i64.wrap ((i : Int) + 1) = (i : Int) + 1 := by rw [IntKind.wrap_i64]; omega
  have hw2 : IntKind.i64.wrap ((l.length : Int) + 1) = (l.length : Int) + 1 := by rw [IntKind.wrap_i64]; omega
  have hw3 : IntKind.i64.wrap ((l.length : Int) + 1 - i) = (l.length : Int) + 1 - i := by rw [IntKind.wrap_i64]; omega
  have hg1 : (cap : Int) < (l.length : Int) + 1 := by omega
  have hb4 : ¬ (cap = i) := by omega
  have hb5 : ¬ (nc = i) := by omega
  have hb6 : ¬ (nc = i + 1) := by omega
  have mixed : Tryz.prog.follows .mixedOrders = true := by kernel_rfl
  have hb1 : (0 : Int) ≤ (i : Int) + 1 := by omega
  have hil : i ≤ l.length := by omega
  have hic : i ≤ cap := by omega
  have hb3 : (i : Int) ≤ (l.length : Int) + 1 := by omega
  have hil1 : i ≤ l.length + 1 := by omega
  have hcm2 : nc ≤ 9223372036854775807 := by unfold maxLen at hcm; omega
  have hcm3 : cap ≤ 9223372036854775807 := by omega
  go_enter Tryz.func32, Tryz.ntmps32
  go_wp2_with (first
    | (at_builtin; refine Lib.wpList_append_run _ rfl _ _ 23 3 rfl _ _ rfl rfl _ _ hrun ?_)
    | (at_builtin; refine wpList_copy2 rfl _ _ 23 23 rfl _ _ rfl rfl (hcp1 _ _) ?_))
  go_region_law_o (refine step_copy2 rfl _ _ 23 23 rfl _ _ (by simp [Act.eval, Act.put]) (by simp [Act.eval, Act.put]) (hcp2 _ _ _) ?_)
  go_wp2
  go_ret
  exact HFIN.out
theorem insert_any (n0 : Nat) (v : Value) (l : List KV) (i vb : Nat) (x : KV) (w : World) (hn0 : n0 ≤ w.heap.size) (hn : l.length + 1 ≤ 1000000000) (hi : i ≤ l.length) (hrow : w.ownsRow n0 45 2 v l.length (flatP l))
    (hv : w.heap[vb]? = some (.cells #[.string x.1, .string x.2] 45 (0, 0))) (hne : v.ownBlock ≠ some vb) :
    Calls Tryz.prog 32 #[v, .int .i64 i, .slice (some ⟨vb, 0, none⟩) 1 1] w (InsPost n0 l i x w) := by
  by_cases he : i = l.length
  · subst he
    exact insert_end n0 v l vb x w hn0 hn hrow hv
  · rcases id hrow.2 with ⟨rfl, h0⟩ | ⟨g, cap, cur, rfl, _⟩
    · omega
    · by_cases hroom : l.length + 1 ≤ cap
      · exact insert_room n0 g cap l i vb x w hn0 hn (by omega) hroom hrow hv (fun e => hne (by rw [e]; rfl))
      · exact insert_grow n0 g cap l i vb x w hn0 hn (by omega) (by omega) hrow hv
end Go.Proofs.YtliaemoomhfcdaaGreat
