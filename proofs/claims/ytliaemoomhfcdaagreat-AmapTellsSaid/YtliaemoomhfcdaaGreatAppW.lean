/- slices.AppendSeq at pairs of texts: against whatever iterator keeps its word, what it gave stands behind what there was. -/
import Derived.RangeFuncNested
import Derived.RangeFuncBound
import Derived.RangeFuncCalls
import Derived.RangeFuncLeaves
import Derived.RangeFuncBox
import Derived.Shelf.Abstract
import Derived.Shelf.RegionOpen
import Derived.WalkKit
import Derived.OwnWalkIn
import Derived.TacticsInMore
import Derived.LoopNIn
import Derived.LoopIn
import Derived.Maps.AppendAt
import Derived.Test.YtliaemoomhfcdaaGreatProg
namespace Go.Proofs.YtliaemoomhfcdaaGreat
open Go.RowKit Go.Shelf
attribute [local go_sem] Oper.semAt_some
set_option maxHeartbeats 1000000
set_option maxRecDepth 100000
abbrev KV := ByteArray × ByteArray
def pairV (p : KV) : Value := .agg #[.string p.1, .string p.2]
def encP (p : KV) : Array Value := #[pairV p]
def flatP : List KV → List Value
  | [] => []
  | p :: t => .string p.1 :: .string p.2 :: flatP t
theorem flatP_app (a b : List KV) : flatP (a ++ b) = flatP a ++ flatP b := by
  induction a with
  | nil => rfl
  | cons p t ih => simp [flatP, ih]
/-- What a round keeps: all that lay below n0, and each block of cells that is neither a slice of pairs in a box nor pairs. -/
def KeepP (n0 : Nat) (W W2 : World) : Prop := Below n0 W W2 ∧ ∀ (k : Nat) cs t r, W.heap[k]? = some (.cells cs t r) → t ≠ 23 → t ≠ 45 → W2.heap[k]? = some (.cells cs t r)
theorem keepP_t {n0 : Nat} {A B C : World} (h : KeepP n0 A B) (k : KeepP n0 B C) : KeepP n0 A C :=
  ⟨h.1.trans k.1, fun i cs t r hi h1 h2 => k.2 i cs t r (h.2 i cs t r hi h1 h2) h1 h2⟩
theorem keepP_put {n0 : Nat} {w : World} (hn : n0 ≤ w.heap.size) (W : World) (l : Nat) (o o' : Obj) (hl : w.heap.size ≤ l) (h : W.heap[l]? = some o) (hc : o.isCells = false) (hw : o.isWalk = false) : KeepP n0 W (W.putObj l o') := by
  refine ⟨belowK_b hn W l o o' hl h hc hw, fun k cs t r hk _ _ => ?_⟩
  have hne : k ≠ l := by
    rintro rfl
    rw [hk] at h; cases h; cases hc
  exact (World.putObj_heap_other hne).trans hk
theorem keepP_refl (n0 : Nat) (W : World) : KeepP n0 W W := ⟨Below.refl _ _, fun _ _ _ _ h _ _ => h⟩
theorem infoP : (Tryz.prog.info? 45).map (fun i => (i.zero, i.size, i.bytes)) = some (some (.agg #[.string ⟨#[]⟩, .string ⟨#[]⟩]), 2, 32) := by kernel_rfl
def Boxed2 (W : World) (B : Nat) (x : KV) : Prop := W.heap[B]? = some (.cells #[.string x.1, .string x.2] 45 (0, 0))
theorem boxed2_own {β : Type} (B : Nat) (x : KV) : Own (fun (_ : β) W => Boxed2 W B x) := fun s X Y row hs hg hrow =>
  (hg.block B (Array.getElem?_eq_some_iff.1 hs).1 (fun e' => by obtain ⟨o, ho, hc⟩ := hrow B e'.symm; rw [show X.heap[B]? = _ from hs] at ho; cases ho; cases hc)).trans hs
theorem Boxed2.cells {W : World} {B : Nat} {x : KV} (h : Boxed2 W B x) : W.cell? ⟨B, 0, none⟩ = some (.string x.1) ∧ W.cell? ⟨B, 1, none⟩ = some (.string x.2) := by
  constructor <;> simp [World.cell?, show W.heap[B]? = _ from h]
theorem keepP_appended {W w1 : World} {n0 B : Nat} {v v' : Value} {k : Nat} {xs : List Value} {tmp : Obj} (hv : Boxed W B 23 v) (hrow : W.ownsRow n0 45 2 v k xs)
    (hb : Below n0 W (w1.setCell ⟨B, 0, none⟩ v')) (hg : (W.alloc tmp).grownBy w1 v.ownBlock) : KeepP n0 W (w1.setCell ⟨B, 0, none⟩ v') := by
  refine ⟨hb, fun i cs t r hi h1 h2 => ?_⟩
  have hlt := (Array.getElem?_eq_some_iff.1 hi).1
  have hne : i ≠ B := by
    rintro rfl
    have h3 := (show W.heap[i]? = _ from hv).symm.trans hi
    cases h3; exact h1 rfl
  have hne2 : some i ≠ v.ownBlock := by
    intro e
    rcases hrow.2 with ⟨rfl, _⟩ | ⟨g, cap, cur, rfl, _, hgb, _⟩
    · simp [Value.ownBlock] at e
    · obtain rfl : i = g := by simpa [Value.ownBlock] using e
      rw [hi] at hgb; cases hgb; exact h2 rfl
  exact (Below.heap_setCell _ _ _ i hne).trans ((hg.block i (by simp; omega) hne2).trans ((Below.heap_alloc _ _ i hlt).trans hi))
theorem cells_two_new (W : World) (a b : Value) (t : TypeId) : ∀ j u, [a, b][j]? = some u → (W.alloc (.cells #[a, b] t)).cell? ((⟨W.heap.size, 0, none⟩ : Addr).add j) = some u := by
  intro j u h
  have hk : (W.alloc (.cells #[a, b] t)).heap[W.heap.size]? = some (.cells #[a, b] t (0, 0)) := World.alloc_heap_new W _
  have h2 : ∀ o : Nat, (W.alloc (.cells #[a, b] t)).cell? (⟨W.heap.size, o, none⟩ : Addr) = (#[a, b] : Array Value)[o]? := fun o => by
    unfold World.cell?
    dsimp only
    rw [hk]
    simp
  have h3 : (⟨W.heap.size, 0, none⟩ : Addr).add j = ⟨W.heap.size, j, none⟩ := by unfold Addr.add; by_cases e : j = 0 <;> simp [e]
  rw [h3, h2]
  simpa using h
theorem appendSeq_in (n : Nat) (hn : 2 ≤ n) (g : Nat) (lb : Array Value) (eg : ∀ args w, (callFunc g args).run Tryz.prog w = .ok (.enter g args) w) (n0 : Nat) (A : Option Addr) (c : Nat) (ps : List KV) (N : Nat)
    (hN : ps.length + N ≤ maxLen) (hNb : (ps.length + N) * 32 ≤ 140737488355328) (w : World) (hn0 : n0 ≤ w.heap.size) (hrow : w.ownsRow n0 45 2 (.slice A ps.length c) ps.length (flatP ps)) (S Sp : List KV → Prop)
    (hseq : ∀ W, Below w.heap.size w W → SeqStopsK Fence.wide (n - 1) Tryz.prog g lb encP (KeepP n0) S Sp N W) :
    CallsIn Fence.wide n Tryz.prog 29 #[.slice A ps.length c, .func (.func g) #[] lb] w fun e w' => ∃ v xs, e = .returned v ∧ S xs ∧ w'.ownsRow n0 45 2 v (ps.length + xs.length) (flatP (ps ++ xs)) ∧ Below n0 w w' := by
  have h1 : 1 ≤ n := by omega
  obtain ⟨i0, hi, hz0, hz1, hz2⟩ := info_parts infoP
  refine callsIn_of_wp_marks Tryz.func29 rfl trivial ?_ rfl
  simp only [Tryz.ntmps29, List.size_toArray, List.length_cons, List.length_nil, Nat.reduceAdd, Nat.reduceSub, Array.replicate_succ, Array.replicate_zero, List.push_toArray, List.append_toArray, List.nil_append, List.cons_append]
  gi_wp2
  have bO := Boxed.new w 23 (.slice A ps.length c)
  have hB0 : Below w.heap.size w (w.alloc (.cells #[.slice A ps.length c] 23)) := (Below.refl _ w).alloc (Nat.le_refl _) _
  refine wpIn_rangeFunc_ownH rfl h1 (gf := g) (lb := lb) rfl trivial eg (hseq _ hB0) keepP_t (keepP_put (by simp; omega)) (Below.refl _ _) (fun _ => rfl)
    (fun pre W => (∃ v, Boxed W w.heap.size 23 v ∧ W.ownsRow n0 45 2 v (ps.length + pre.length) (flatP (ps ++ pre)) ∧ True) ∧ Below n0 w W)
    (fun _ _ _ => False)
    (OwnFrom.and (Own.from (holdsRow_own n0 w.heap.size 23 45 2 (fun pre => ps.length + pre.length) (fun pre => flatP (ps ++ pre)) (fun _ _ => True)) _) (ownFrom_below hn0 (by simp; omega)))
    (fun _ _ _ _ _ hs _ _ => hs)
    ⟨⟨_, bO, by rw [List.append_nil]; exact hrow.alloc _, trivial⟩, hB0.mono hn0⟩
    (fun x a' W => ∃ Bx, w.heap.size < Bx ∧ Boxed2 W Bx x ∧ a' = { tmps := #[.slice A ps.length c, .func (.func g) #[] lb, .pointer (some ⟨w.heap.size, 0, none⟩), undef, .slice none 0 0, .pointer (some ⟨Bx, 0, none⟩), .func (.func g) #[] lb, .agg #[.string x.1, .string x.2], undef, undef, undef, undef, undef], defers := [] }) ?ax ?assign ?body ?done ?stop
  case ax =>
    rintro x a' s X Y row ⟨Bx, h1, h2, h3⟩ hg hrow
    exact ⟨Bx, h1, boxed2_own (β := Unit) Bx x () X Y row h2 hg (fun r e => (hrow r e).2), h3⟩
  case assign =>
    rintro l pre x W K ⟨⟨v, hv, hr, -⟩, hB⟩ hK
    simp only [encP, pairV]
    gi_wp2
    have hsz := hv.lt
    have hbA : Below n0 W (W.alloc (.cells #[.string x.1, .string x.2] 45)) := (Below.refl _ _).alloc (Nat.le_trans hn0 hB.size) _
    exact hK _ _ ((KeepsOthers.alloc _ _).from _) ⟨hbA, fun k cs t r hk _ _ => (Below.heap_alloc _ _ k (Array.getElem?_eq_some_iff.1 hk).1).trans hk⟩ ⟨⟨v, hv.alloc _, hr.alloc _, trivial⟩, hB.trans hbA⟩ ⟨W.heap.size, hsz, World.alloc_heap_new W _, rfl⟩
  case body =>
    rintro l pre x a' W hl hlr ⟨⟨v, hv, hr, -⟩, hB⟩ ⟨Bx, hBx, hX, rfl⟩ hlt
    have hc := hv.cell
    obtain ⟨hx0, hx1⟩ := hX.cells
    have hl2 : ps.length + pre.length + 1 ≤ ps.length + N := by omega
    have hl3 := Nat.le_trans hl2 hN
    gi_wp2_with (gi_at_builtin; refine wpListIn_append_own _ rfl _ _ 23 rfl n0 45 i0 (.agg #[.string ⟨#[]⟩, .string ⟨#[]⟩]) 2 32 Tryz.underlying23 hi hz0 hz1 hz2 rfl (by decide) _ _ _ rfl (hr.alloc _) ⟨W.heap.size, 0, none⟩ 1 1 [.string x.1, .string x.2] rfl rfl (cells_two_new _ _ _ _) (by simp [Value.oneCell']) (by omega) (by omega) (by have := hB.size; simp; omega) ?_; intro v' w1 hown' hgrow _; obtain ⟨g', cap', rfl⟩ := ownsRow_succ hown'; obtain ⟨hv1, hv2, hr2, hk2, hb2⟩ := hv.appended (by decide) hr (Nat.le_trans hn0 hB.size) hn0 hown' hgrow; have hc1 := hv1.cell; have hf1 := hv1.frozen)
    refine ⟨hk2.from _, keepP_appended hv hr hb2 hgrow, ⟨_, hv2, ?_, trivial⟩, hB.trans hb2⟩
    rw [← List.append_assoc, flatP_app]
    simpa [flatP, Nat.add_assoc] using hr2
  case done =>
    rintro D ys W hD hS ⟨⟨v, hv, hr, -⟩, hB⟩ hK
    have hc := hv.cell
    gi_wp2
    refine ⟨by simp, .inl ⟨_, _, rfl, run_takeDeferred hK, ?_⟩⟩
    exact ⟨_, results_tmp rfl _ _ _, v, ys, rfl, hS, ownsRow_putObj hr _ hK rfl, hB.trans (belowK_b (w := w) hn0 W D _ _ (by simp at hD; omega) hK rfl rfl)⟩
  case stop =>
    rintro D c pre W _ _ h _
    exact h.elim
end Go.Proofs.YtliaemoomhfcdaaGreat
