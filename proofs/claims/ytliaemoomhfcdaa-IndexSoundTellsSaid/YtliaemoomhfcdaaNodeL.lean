/- The node of a block's words: the walk, and its contract. -/
import Derived.Test.YtliaemoomhfcdaaMB
namespace Go.Proofs.Ytliaemoomhfcdaa
open Go.RowKit Go.Proofs.YtliaemoomhfcdaaW.PrintWords
set_option maxHeartbeats 2000000
set_option maxRecDepth 100000
set_option linter.unusedVariables false
set_option linter.unusedSimpArgs false

structure PNode where
  level : Int
  turn : Int
  next : Int
  low : Int
  slots : List Int
def PNode.zero : PNode := ⟨0, 0, 0, 0, []⟩
def nodeOf16 (f : List Int) : PNode := ⟨bits .and .i64 (f.getD 0 0) 15, (bits .andNot .i64 (f.getD 0 0) 1152921504606846976) / 16, f.getD 1 0, f.getD 2 0, slotsOf f 0⟩
def PNode.ok (x : PNode) : Bool := nodeOk x.level x.turn x.next x.low x.slots
def PNode.words (x : PNode) : List Int := nodeWords x.level x.turn x.next x.low x.slots
/-- The node of a block's words, or why there is none. -/
def nodeRead16 (f : List Int) : PNode × Int := if (nodeOf16 f).ok = true ∧ (nodeOf16 f).words = f then (nodeOf16 f, 0) else (PNode.zero, 90)
def nodeRead (ws : List Int) (b : Int) : PNode × Int :=
  if b < 0 then (PNode.zero, 1) else if (ws.length : Int) / 16 ≤ b then (PNode.zero, 1) else nodeRead16 (blockOf ws b.toNat)
def NodePost (r : PNode × Int) (w : World) (e : Ending) (w' : World) : Prop :=
  ∃ v, e = .returned (.tuple #[.agg #[.int .i64 r.1.level, .int .i64 r.1.turn, .int .i64 r.1.next, .int .i64 r.1.low, v], .int .i64 r.2]) ∧ Kd.R (Kd.int .i64) 3 w' w.heap.size (fun _ => True) v r.1.slots ∧ Below w.heap.size w w'
def PNode.flat (r : PNode × Int) : Int × Int × Int × Int × List Int × Int := (r.1.level, r.1.turn, r.1.next, r.1.low, r.1.slots, r.2)
theorem w64_id {x : Int} (h0 : 0 ≤ x) (h1 : x ≤ 9223372036854775807) : wrap64 x = x := by unfold wrap64; omega
theorem drop_cons_ {l : List Int} {i : Nat} (h : i < l.length) : l.drop i = l.getD i 0 :: l.drop (i + 1) := by
  rw [List.drop_eq_getElem_cons h]; simp [List.getD_eq_getElem?_getD, List.getElem?_eq_getElem h]
theorem equal_l0 (a b : List Int) (hab : a.length = b.length) (hn : a.length ≤ 1000000000) : ∀ (d i : Nat), a.length - i = d → i ≤ a.length → ∀ k, d < k →
    NR.slices_Equal_int_int.l0 k a b (a.length : Int) (i : Int) = some (a.drop i == b.drop i) := by
  intro d
  induction d with
  | zero =>
    intro i hd hi k hk
    obtain ⟨k, rfl⟩ : ∃ m, k = m + 1 := ⟨k - 1, by omega⟩
    unfold NR.slices_Equal_int_int.l0
    rw [if_neg (by omega), List.drop_eq_nil_of_le (by omega), List.drop_eq_nil_of_le (by omega)]
    rfl
  | succ d ih =>
    intro i hd hi k hk
    obtain ⟨k, rfl⟩ : ∃ m, k = m + 1 := ⟨k - 1, by omega⟩
    have g1 : (i : Int) < (a.length : Int) := by omega
    have g2 : 0 ≤ (i : Int) := by omega
    have g3 : (i : Int) < (b.length : Int) := by omega
    have g4 : i < a.length := by omega
    have g5 : i < b.length := by omega
    have g6 := ih (i + 1) (by omega) (by omega) k (by omega)
    have e1 : rd a (i : Int) = a.getD i 0 := rfl
    have e2 : rd b (i : Int) = b.getD i 0 := rfl
    have e3 : wrap64 ((i : Int) + 1) = ((i + 1 : Nat) : Int) := by clear e1 e2 g6; rw [w64_id (by omega) (by omega)]; rfl
    unfold NR.slices_Equal_int_int.l0
    rw [if_pos g1, if_pos g2, if_pos g1, if_pos g3, e1, e2, e3, drop_cons_ g4, drop_cons_ g5, g6]
    by_cases h : a.getD i 0 = b.getD i 0
    · rw [if_pos h, h]; simp
    · rw [if_neg h]; simp only [List.getD_eq_getElem?_getD] at h; simp [h]
theorem equal_f (a b : List Int) (hn : a.length ≤ 1000000000) (k : Nat) (hk : a.length < k) : NR.slices_Equal_int_int.f k a b = some (a == b) := by
  unfold NR.slices_Equal_int_int.f
  by_cases h : (a.length : Int) = (b.length : Int)
  · rw [if_pos h]
    have := equal_l0 a b (by omega) hn a.length 0 (by omega) (by omega) k hk
    simpa using this
  · rw [if_neg h]
    congr 1
    rw [eq_comm, beq_eq_false_iff_ne]
    intro e
    rw [e] at h
    exact h rfl
theorem node_words_len (x : PNode) (h : x.slots.length ≤ 13) : x.words.length = 16 := by
  unfold PNode.words nodeWords
  simp
  omega
theorem slots_len (f : List Int) : (slotsOf f 0).length ≤ 13 := by
  unfold slotsOf
  exact Nat.le_trans (List.IsPrefix.length_le (List.takeWhile_prefix _)) (by rw [List.length_take]; omega)
theorem res_node {tmps : Array Value} {W : World} {g : Nat} {a b c d : Int} {s v : Value} (hp : tmps.getD 4 undef = .pointer (some ⟨g, 0, none⟩)) (hv : tmps.getD 5 undef = v)
    (h : W.heap[g]? = some (.cells #[.int .i64 a, .int .i64 b, .int .i64 c, .int .i64 d, s] 24 (0, 0))) :
    (results Try.f21 tmps).run Try.prog W = .ok (.tuple #[.agg #[.int .i64 a, .int .i64 b, .int .i64 c, .int .i64 d, s], v]) W := by
  rw [results_cell_tmp (p := 4) (u := 5) (ty := 24) rfl, hp, hv]
  have h1 := run_loadVar_row (P := Try.prog) W g 24 24 _ _ _ h Try.underlying24 rfl (by kernel_rfl)
  have h2 : (asAddr (.pointer (some ⟨g, 0, none⟩))).run Try.prog W = .ok ⟨g, 0, none⟩ W := by simp [asAddr]
  rw [h2]
  show ((loadVar 24 ⟨g, 0, none⟩).run Try.prog W).andThen _ = _
  rw [h1]
  rfl
theorem RI.rd_ {W : World} {a : Addr} {n : Nat} {xs : List Int} (h : RI W (some a) n xs) {k : Nat} {x : Int} (hk : xs[k]? = some x) : W.cell? (a.add k) = some (.int .i64 x) := by
  have hl := h.len
  have hkn : k < n := by rw [← hl]; exact (List.getElem?_eq_some_iff.1 hk).1
  obtain ⟨ad, y, e, _, hy, hc⟩ := h.at_ hkn
  injection e with e
  subst e
  rw [hk] at hy
  injection hy with hy
  rw [hy]
  exact hc
theorem nread_bad (A : Option Addr) (n c : Nat) (b : Int) (w : World) (hn : n ≤ 1000000000) (hb : b < 0 ∨ (n : Int) / 16 ≤ b) :
    Calls Try.prog 21 #[.slice A n c, .int .i64 b] w (NodePost (PNode.zero, 1) w) := by
  by_cases h0 : b < 0
  · go_enter Try.func21, Try.ntmps21
    go_wp2
    exact bodyPost_ret (res_node rfl rfl (heap_alloc_new _ _)) rfl ⟨_, rfl, Kd.R_nil _ _ _ _ _, (Below.refl _ _).alloc (Nat.le_refl _) _⟩
  · have h1 := hb.resolve_left h0
    go_enter Try.func21, Try.ntmps21
    go_wp2
    exact bodyPost_ret (res_node rfl rfl (heap_alloc_new _ _)) rfl ⟨_, rfl, Kd.R_nil _ _ _ _ _, (Below.refl _ _).alloc (Nat.le_refl _) _⟩
theorem own_move {W W' : World} {n0 n1 k : Nat} {v : Value} {xs : List Value} (h : W.ownsRow n1 3 1 v k xs) (hn : n0 ≤ n1) (hm : ∀ (q : Nat) (cur : Array Value), n1 ≤ q → W.heap[q]? = some (Obj.cells cur 3 (0, 0)) → W'.heap[q]? = some (Obj.cells cur 3 (0, 0))) : W'.ownsRow n0 3 1 v k xs := by
  refine ⟨h.1, ?_⟩
  rcases h.2 with h2 | ⟨g2, cap, cur, rfl, h1, h2, h3⟩
  · exact .inl h2
  · exact .inr ⟨g2, cap, cur, rfl, Nat.le_trans hn h1, hm _ _ h1 h2, h3⟩
theorem equal_call (A0 : Option Addr) (n0 c0 : Nat) (l0 : List Int) (A1 : Option Addr) (n1 c1 : Nat) (l1 : List Int) (q : Bool) (W : World) (h0 : RI W A0 n0 l0) (hc0 : n0 ≤ c0) (h1 : RI W A1 n1 l1) (hc1 : n1 ≤ c1) (hn : n0 ≤ 100000) (hn1 : n1 ≤ 100000) (hq : q = (l0 == l1)) :
    Calls Try.prog 47 #[.slice A0 n0 c0, .slice A1 n1 c1] W fun e w' => e = .returned (.bool q) ∧ Drawn0 W w' := by
  obtain rfl := h0.len
  obtain rfl := h1.len
  exact NR.slices_Equal_int_int.calls 1000000 A0 c0 l0 A1 c1 l1 q W (C_of_RI h0 (by omega)) hc0 (C_of_RI h1 (by omega)) hc1 (by rw [equal_f _ _ (by omega) 1000000 (by omega), hq])
theorem gd_ {f : List Int} {i : Nat} (h : i < f.length) : f.getD i 0 = f[i] := by rw [List.getD_eq_getElem?_getD, List.getElem?_eq_getElem h]; rfl
theorem nodeRead16_ok (f : List Int) (q : Bool) (hok : (nodeOf16 f).ok = true) (hq : q = ((nodeOf16 f).words == f)) : nodeRead16 f = if q = true then (nodeOf16 f, 0) else (PNode.zero, 90) := by
  unfold nodeRead16
  by_cases h : q = true
  · rw [if_pos h, if_pos ⟨hok, by rw [hq] at h; exact eq_of_beq h⟩]
  · rw [if_neg h, if_neg (fun h2 => h (by rw [hq]; exact beq_iff_eq.2 h2.2))]
theorem nread_good (A : Option Addr) (n c : Nat) (xs : List Int) (b : Nat) (w : World) (h : RI w A n xs) (hn : n ≤ 1000000000) (hc : n ≤ c) (hb : 16 * b + 16 ≤ n) :
    Calls Try.prog 21 #[.slice A n c, .int .i64 (b : Int)] w (NodePost (nodeRead16 (blockOf xs b)) w) := by
  have hlen : (blockOf xs b).length = 16 := by unfold blockOf; rw [List.length_take, List.length_drop, h.len]; omega
  obtain ⟨ad, x0, rfl, _, _, _⟩ := h.at_ (k := 0) (by omega)
  have hri : RI w (some (ad.add (16 * b))) 16 (blockOf xs b) := by
    have := RI.dropc h (k := 16 * b) (by omega) hc (by omega)
    exact RI.take this (by omega)
  generalize blockOf xs b = f at hlen hri ⊢
  have HRI := Lib.hid hri
  obtain ⟨f0, f1, f2, hf0, hf1, hf2, e0, e1, e2⟩ : ∃ f0 f1 f2, f[0]? = some f0 ∧ f[1]? = some f1 ∧ f[2]? = some f2 ∧ f.getD 0 0 = f0 ∧ f.getD 1 0 = f1 ∧ f.getD 2 0 = f2 :=
    ⟨f[0], f[1], f[2], List.getElem?_eq_getElem (by omega), List.getElem?_eq_getElem (by omega), List.getElem?_eq_getElem (by omega), gd_ (by omega), gd_ (by omega), gd_ (by omega)⟩
  have hX : nodeOf16 f = ⟨bits .and .i64 f0 15, (bits .andNot .i64 f0 1152921504606846976) / 16, f1, f2, slotsOf f 0⟩ := by unfold nodeOf16; rw [e0, e1, e2]
  have HX := Lib.hid hX
  have HL := Lib.hid hlen
  have hcap : ¬ c = 16 * b := by omega
  have hI0 : (0 : Int) ≤ 16 * (b : Int) := by omega
  have hI1 : (16 : Int) * (b : Int) ≤ 16 * ((b : Int) + 1) := by omega
  have hI2 : (16 : Int) * ((b : Int) + 1) ≤ (c : Int) := by omega
  have hI6 : (16 : Int) * ((b : Int) + 1) ≤ (n : Int) := by omega
  have hI3 : (16 * (b : Int)).toNat = 16 * b := by omega
  have hI5 : (16 * ((b : Int) + 1)).toNat - 16 * b = 16 := by omega
  have hI7 : ¬ (n : Int) / 16 ≤ b := by omega
  have hI4 : IntKind.i64.wrap (16 * (b : Int)) = 16 * (b : Int) := by rw [IntKind.wrap_i64]; omega
  have hI8 : IntKind.i64.wrap ((b : Int) + 1) = (b : Int) + 1 := by rw [IntKind.wrap_i64]; omega
  have hI9 : IntKind.i64.wrap (16 * ((b : Int) + 1)) = 16 * ((b : Int) + 1) := by rw [IntKind.wrap_i64]; omega
  clear hri hlen h hX e0 e1 e2
  go_enter Try.func21, Try.ntmps21
  go_upto_region 4 with fail
  have HZ := Lib.hid (heap_alloc_new w (.cells #[Value.int .i64 0, Value.int .i64 0, Value.int .i64 0, Value.int .i64 0, Value.slice none 0 0] 24))
  have HB1 := Lib.hid ((Below.refl w.heap.size w).alloc (Nat.le_refl _) (.cells #[Value.int .i64 0, Value.int .i64 0, Value.int .i64 0, Value.int .i64 0, Value.slice none 0 0] 24))
  have HR1 := Lib.hid (HRI.out.below HB1.out)
  generalize w.alloc (.cells #[Value.int .i64 0, Value.int .i64 0, Value.int .i64 0, Value.int .i64 0, Value.slice none 0 0] 24) = W1 at *
  have c0 := HR1.out.rd_ hf0
  rw [Addr.add_zero'] at c0
  have c1 := HR1.out.rd_ hf1
  have c2 := HR1.out.rd_ hf2
  generalize hlv : bits BinOp.and IntKind.i64 f0 15 = lv at HX
  generalize htu : bits BinOp.andNot IntKind.i64 f0 1152921504606846976 / 16 = tu at HX
  go_cut [7, 43, 44] (fun s sx sy wc => ∃ g A5 c5, s = .pointer (some ⟨g, 0, none⟩) ∧ Hid (w.heap.size < g) ∧ Hid (wc.heap[g]? = some (.cells #[.int .i64 lv, .int .i64 tu, .int .i64 f1, .int .i64 f2, .slice A5 (slotsOf f 0).length c5] 24 (0, 0))) ∧ Hid (wc.ownsRow w.heap.size 3 1 (.slice A5 (slotsOf f 0).length c5) (slotsOf f 0).length (ints (slotsOf f 0))) ∧ Hid (wc.heap[w.heap.size]? = some (.cells #[Value.int .i64 0, Value.int .i64 0, Value.int .i64 0, Value.int .i64 0, Value.slice none 0 0] 24 (0, 0))) ∧ Hid (Below w.heap.size w wc))
  case first =>
    subst hlv htu
    have mixed : Try.prog.follows .mixedOrders = true := by kernel_rfl
    have d0 : W1.cell? (ad.add (16 * b)) = some (.int .i64 f0) := c0
    have d1 : W1.cell? ⟨(ad.add (16 * b)).block, (ad.add (16 * b)).off + 1, none⟩ = some (.int .i64 f1) := c1
    have d2 : W1.cell? ⟨(ad.add (16 * b)).block, (ad.add (16 * b)).off + 2, none⟩ = some (.int .i64 f2) := c2
    generalize ad.add (16 * b) = ad2 at *
    have z0 := World.new_ne W1.drew _ d0
    have z1 := World.new_ne W1.drew _ d1
    have z2 := World.new_ne W1.drew _ d2
    have hlt : ad2.block < W1.heap.size := by obtain ⟨_, _, e, hl, _, _⟩ := HR1.out.at_ (k := 0) (by omega); injection e with e; rw [e]; exact hl
    have q1 : Below W1.heap.size W1 W1.drew := (Below.refl _ _).drew
    have q2 : ∀ o, Below W1.heap.size W1 (W1.alloc o).drew := fun o => ((Below.refl _ _).alloc (Nat.le_refl _) o).drew
    have QK := Lib.hid (fun (W : World) (h : Below W1.heap.size W1 W) => (show W.cell? ad2 = some (.int .i64 f0) ∧ W.cell? ⟨ad2.block, ad2.off + 1, none⟩ = some (.int .i64 f1) ∧ W.cell? ⟨ad2.block, ad2.off + 2, none⟩ = some (.int .i64 f2) from ⟨(h.cell (p := ad2) hlt).trans d0, (h.cell (p := ⟨ad2.block, ad2.off + 1, none⟩) hlt).trans d1, (h.cell (p := ⟨ad2.block, ad2.off + 2, none⟩) hlt).trans d2⟩))
    have HC := Lib.hid (fun (W : World) (hW : Below W1.heap.size W1 W) => slots_any (some ad2) 16 (c - 16 * b) f W (HR1.out.below hW) (by omega) (by omega) (by omega))
    have Q1 := Lib.hid q1
    have Q2 := Lib.hid q2
    clear c0 c1 c2 q1 q2
    go_region_held3 (fun w' : World => w'.cell? ad2 = some (.int .i64 f0) ∧ w'.cell? ⟨ad2.block, ad2.off + 1, none⟩ = some (.int .i64 f1) ∧ w'.cell? ⟨ad2.block, ad2.off + 2, none⟩ = some (.int .i64 f2)) (first | go_keep | exact QK.out _ HB5.out | exact QK.out _ (HB5.out.alloc HB5.out.size _) | exact QK.out _ (((((HB5.out.setCell (Nat.le_refl _) _).setCell (Nat.le_refl _) _).setCell (Nat.le_refl _) _).setCell (Nat.le_refl _) _).setCell (Nat.le_refl _) _)) (first | (go_at_call 45; refine (HC.out _ Q1.out).mono ?_; rintro e w5 ⟨v5, rfl, ho5, hB5⟩; obtain ⟨A5, c5, rfl, _, _⟩ := own_cap ho5; have HB5 := Lib.hid (Q1.out.next hB5); have HO5 := Lib.hid ho5; clear hB5 ho5) | (go_at_call 45; refine (HC.out _ (Q2.out _)).mono ?_; rintro e w5 ⟨v5, rfl, ho5, hB5⟩; obtain ⟨A5, c5, rfl, _, _⟩ := own_cap ho5; have hg5 := (hB5.block W1.heap.size (by simp)).trans (heap_alloc_new W1 _); have k0 := cell_of_row _ _ 0 _ _ _ hg5; have k1 := cell_of_row _ _ 1 _ _ _ hg5; have k2 := cell_of_row _ _ 2 _ _ _ hg5; have k3 := cell_of_row _ _ 3 _ _ _ hg5; have k4 := cell_of_row _ _ 4 _ _ _ hg5; have m0 := frozen_of_row _ _ 0 _ _ hg5; have m1 := frozen_of_row _ _ 1 _ _ hg5; have m2 := frozen_of_row _ _ 2 _ _ hg5; have m3 := frozen_of_row _ _ 3 _ _ hg5; have m4 := frozen_of_row _ _ 4 _ _ hg5; have HG5 := Lib.hid hg5; have HB5 := Lib.hid ((Q2.out _).next hB5); have HO5 := Lib.hid ho5; clear hB5 ho5 hg5))
    all_goals (go_wp2_with fail; go_meet)
    · have l0 := (Array.getElem?_eq_some_iff.1 HZ.out).1
      have l1 := HB5.out.size
      exact ⟨w5.heap.size, A5, c5, rfl, Lib.hid (by omega), Lib.hid (heap_alloc_new _ _), Lib.hid (own_move HO5.out (show w.heap.size ≤ W1.heap.size by omega) (fun q cur _ hq => (Below.heap_alloc _ _ _ (Array.getElem?_eq_some_iff.1 hq).1).trans hq)), Lib.hid ((Below.heap_alloc _ _ _ (by omega)).trans ((HB5.out.block _ l0).trans HZ.out)), Lib.hid ((HB1.out.next HB5.out).alloc (by omega) _)⟩
    · have l0 := (Array.getElem?_eq_some_iff.1 HZ.out).1
      have l1 := HB5.out.size
      have hs := heap_setCell_same _ _ 4 _ _ (.slice A5 (slotsOf f 0).length c5) (heap_setCell_same _ _ 3 _ _ (.int .i64 f2) (heap_setCell_same _ _ 2 _ _ (.int .i64 f1) (heap_setCell_same _ _ 1 _ _ (.int .i64 (bits BinOp.andNot IntKind.i64 f0 1152921504606846976 / 16)) (heap_setCell_same _ _ 0 _ _ (.int .i64 (bits BinOp.and IntKind.i64 f0 15)) HG5.out))))
      have hk : ∀ q, q ≠ W1.heap.size → ∀ v0 v1 v2 v3 v4, (((((w5.setCell ⟨W1.heap.size, 0, none⟩ v0).setCell ⟨W1.heap.size, 1, none⟩ v1).setCell ⟨W1.heap.size, 2, none⟩ v2).setCell ⟨W1.heap.size, 3, none⟩ v3).setCell ⟨W1.heap.size, 4, none⟩ v4).heap[q]? = w5.heap[q]? := by
        intro q hq v0 v1 v2 v3 v4
        rw [Below.heap_setCell _ _ _ _ hq, Below.heap_setCell _ _ _ _ hq, Below.heap_setCell _ _ _ _ hq, Below.heap_setCell _ _ _ _ hq, Below.heap_setCell _ _ _ _ hq]
      exact ⟨W1.heap.size, A5, c5, rfl, Lib.hid l0, Lib.hid hs, Lib.hid (own_move HO5.out (by simp; omega) (fun q cur _ hq => (hk q (by rintro rfl; rw [HG5.out] at hq; injection hq with hq; injection hq with _ hq _; exact absurd hq (by decide)) _ _ _ _ _).trans hq)), Lib.hid ((hk _ (by omega) _ _ _ _ _).trans ((HB5.out.block _ l0).trans HZ.out)), Lib.hid (HB1.out.next (((((HB5.out.setCell (Nat.le_refl _) _).setCell (Nat.le_refl _) _).setCell (Nat.le_refl _) _).setCell (Nat.le_refl _) _).setCell (Nat.le_refl _) _))⟩
  case rest =>
  obtain ⟨g, A5, c5, rfl, HG, HN, HO, HZ2, HB2⟩ := hcut
  have hR5 : RI wc A5 (slotsOf f 0).length (slotsOf f 0) ∧ (slotsOf f 0).length ≤ c5 := by obtain ⟨A', c', e, hc5, hri5⟩ := own_cap HO.out; injection e with e1 _ e2; subst e1 e2; exact ⟨hri5, hc5⟩
  have hs13 := slots_len f
  have hWB : ∀ x : PNode, x.slots.length ≤ 13 → x.words.length = 16 := node_words_len
  have HR0 := Lib.hid (HRI.out.below HB2.out)
  have hcw : 16 ≤ c - 16 * b := by omega
  clear HZ HB1 HR1 c0 c1 c2 hlv htu
  have hg0 : g < wc.heap.size := (Array.getElem?_eq_some_iff.1 HN.out).1
  have hg1 : w.heap.size < wc.heap.size := (Array.getElem?_eq_some_iff.1 HZ2.out).1
  have HOKR := Lib.hid (nodeRead16_ok f)
  have hNO : ¬ (nodeOf16 f).ok = true → nodeRead16 f = (PNode.zero, 90) := by intro h; unfold nodeRead16; rw [if_neg (fun x => h x.1)]
  rw [HX.out] at hNO HOKR
  generalize slotsOf f 0 = sl at *
  have HS := Lib.hid hR5.1
  have HNO := Lib.hid hNO
  clear hR5 hNO
  by_cases hok : nodeOk lv tu f1 f2 sl = true
  · have HWC := Lib.hid (nodeWords_any lv tu f1 f2 A5 _ c5 sl wc HS.out (by omega) hok)
    have hwl : (nodeWords lv tu f1 f2 sl).length = 16 := hWB ⟨lv, tu, f1, f2, sl⟩ hs13
    obtain ⟨q, hq⟩ : ∃ q : Bool, q = (nodeWords lv tu f1 f2 sl == f) := ⟨_, rfl⟩
    have HRES := Lib.hid (HOKR.out q hok hq)
    have HQ := Lib.hid hq
    obtain ⟨NW, hNW⟩ : ∃ NW, NW = nodeWords lv tu f1 f2 sl := ⟨_, rfl⟩
    rw [← hNW] at HWC HQ hwl
    have HWL := Lib.hid hwl
    clear hq hok HNO HX HOKR hNW hwl hs13 hWB hf0 hf1 hf2
    cases q with
    | false =>
      go_wp2_with (first
        | (refine wpList_load_row rfl 24 _ rfl g rfl 24 #[Value.int .i64 lv, Value.int .i64 tu, Value.int .i64 f1, Value.int .i64 f2, Value.slice A5 sl.length c5] (0, 0) _ HN.out Try.underlying24 rfl (by kernel_rfl) ?_)
        | (go_at_call 46; refine HWC.out.mono ?_; rintro e w5 ⟨v5, rfl, ho5, hB5⟩; obtain ⟨A6, c6, rfl, hc6, hri6⟩ := own_cap ho5)
        | (go_at_call 47; refine (equal_call A6 _ c6 NW (some (ad.add (16 * b))) 16 (c - 16 * b) _ false _ hri6 hc6 (HR0.out.below hB5) hcw (by rw [HWL.out]; omega) (by omega) HQ.out).mono ?_; rintro e w6 ⟨rfl, hD6⟩; have hb6 := hB5.next hD6.below; have hz6 := (hb6.block _ hg1).trans HZ2.out; have hn6 := (hb6.block _ hg0).trans HN.out)
        | (refine wpList_store_row rfl 24 _ _ rfl w.heap.size #[Value.int .i64 0, Value.int .i64 0, Value.int .i64 0, Value.int .i64 0, Value.slice none 0 0] rfl rfl 24 #[Value.int .i64 0, Value.int .i64 0, Value.int .i64 0, Value.int .i64 0, Value.slice none 0 0] hz6 (by kernel_rfl) rfl (by simp [Value.oneCell']) ?_))
      exact bodyPost_ret (res_node rfl rfl (setRow_heap _ _ _ _ _ _ hz6)) rfl ⟨_, by rw [HRES.out]; rfl, by rw [HRES.out]; exact Kd.R_nil _ _ _ _ _, below_setRow (HB2.out.next hb6) (Nat.le_refl _) _⟩
    | true =>
      go_wp2_with (first
        | (refine wpList_load_row rfl 24 _ rfl g rfl 24 #[Value.int .i64 lv, Value.int .i64 tu, Value.int .i64 f1, Value.int .i64 f2, Value.slice A5 sl.length c5] (0, 0) _ HN.out Try.underlying24 rfl (by kernel_rfl) ?_)
        | (refine wpList_load_row rfl 24 _ rfl g rfl 24 #[Value.int .i64 lv, Value.int .i64 tu, Value.int .i64 f1, Value.int .i64 f2, Value.slice A5 sl.length c5] (0, 0) _ hn6 Try.underlying24 rfl (by kernel_rfl) ?_)
        | (go_at_call 46; refine HWC.out.mono ?_; rintro e w5 ⟨v5, rfl, ho5, hB5⟩; obtain ⟨A6, c6, rfl, hc6, hri6⟩ := own_cap ho5)
        | (go_at_call 47; refine (equal_call A6 _ c6 NW (some (ad.add (16 * b))) 16 (c - 16 * b) _ true _ hri6 hc6 (HR0.out.below hB5) hcw (by rw [HWL.out]; omega) (by omega) HQ.out).mono ?_; rintro e w6 ⟨rfl, hD6⟩; have hb6 := hB5.next hD6.below; have hz6 := (hb6.block _ hg1).trans HZ2.out; have hn6 := (hb6.block _ hg0).trans HN.out)
        | (refine wpList_store_row rfl 24 _ _ rfl w.heap.size #[Value.int .i64 lv, Value.int .i64 tu, Value.int .i64 f1, Value.int .i64 f2, Value.slice A5 sl.length c5] rfl rfl 24 #[Value.int .i64 0, Value.int .i64 0, Value.int .i64 0, Value.int .i64 0, Value.slice none 0 0] hz6 (by kernel_rfl) rfl (by simp [Value.oneCell']) ?_))
      exact bodyPost_ret (res_node rfl rfl (setRow_heap _ _ _ _ _ _ hz6)) rfl ⟨_, by rw [HRES.out]; rfl, by rw [HRES.out]; exact R_of_ints (own_move HO.out (Nat.le_refl _) (fun q cur _ hq => by rw [setRow_other _ _ _ _ (by rintro rfl; have := HZ2.out.symm.trans hq; simp at this)]; exact (hb6.block _ (Array.getElem?_eq_some_iff.1 hq).1).trans hq)), below_setRow (HB2.out.next hb6) (Nat.le_refl _) _⟩
  · have HRES := Lib.hid (HNO.out hok)
    have HWC := Lib.hid (nodeWords_bad lv tu f1 f2 A5 _ c5 sl wc HS.out (by omega) (by simpa using hok))
    clear hok HNO HX HOKR hs13 hWB hf0 hf1 hf2
    go_wp2_with (first
      | (refine wpList_load_row rfl 24 _ rfl g rfl 24 #[Value.int .i64 lv, Value.int .i64 tu, Value.int .i64 f1, Value.int .i64 f2, Value.slice A5 sl.length c5] (0, 0) _ HN.out Try.underlying24 rfl (by kernel_rfl) ?_)
      | (go_at_call 46; refine HWC.out.mono ?_; rintro e w5 ⟨v5, rfl, ho5, hB5⟩; obtain ⟨A6, c6, rfl, hc6, hri6⟩ := own_cap ho5; have hz6 := (hB5.block _ hg1).trans HZ2.out)
      | (refine wpList_store_row rfl 24 _ _ rfl w.heap.size #[Value.int .i64 0, Value.int .i64 0, Value.int .i64 0, Value.int .i64 0, Value.slice none 0 0] rfl rfl 24 #[Value.int .i64 0, Value.int .i64 0, Value.int .i64 0, Value.int .i64 0, Value.slice none 0 0] hz6 (by kernel_rfl) rfl (by simp [Value.oneCell']) ?_))
    exact bodyPost_ret (res_node rfl rfl (setRow_heap _ _ _ _ _ _ hz6)) rfl ⟨_, by rw [HRES.out]; rfl, by rw [HRES.out]; exact Kd.R_nil _ _ _ _ _, below_setRow (HB2.out.next hB5) (Nat.le_refl _) _⟩
theorem nodeRead_any (A : Option Addr) (c : Nat) (ws : List Int) (b : Int) (w : World) (h : Kd.C (Kd.int .i64) w A ws.length ws) (hc : ws.length ≤ c) (hn : ws.length ≤ 1000000000) :
    Calls Try.prog 21 #[.slice A ws.length c, .int .i64 b] w (NodePost (nodeRead ws b) w) := by
  unfold nodeRead
  by_cases h0 : b < 0
  · rw [if_pos h0]
    exact nread_bad A ws.length c b w hn (.inl h0)
  · rw [if_neg h0]
    by_cases h1 : (ws.length : Int) / 16 ≤ b
    · rw [if_pos h1]
      exact nread_bad A ws.length c b w hn (.inr h1)
    · rw [if_neg h1]
      obtain ⟨b, rfl⟩ := Int.eq_ofNat_of_zero_le (show 0 ≤ b by omega)
      rw [Int.toNat_natCast]
      exact nread_good A ws.length c ws b w (RI_of_C h) hn hc (by omega)
end Go.Proofs.Ytliaemoomhfcdaa
