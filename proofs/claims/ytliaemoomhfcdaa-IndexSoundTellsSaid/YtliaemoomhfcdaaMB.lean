/- Several texts of this seat, joined: RecW, ArrW, NodeW, WordsW, RCx0, RCx1, ReadW, RegW, RecR, NRx0, NRx1, GivenNR. -/
import Derived.Test.YtliaemoomhfcdaaMQ
import Derived.Test.YtliaemoomhfcdaaMA
import Derived.Laws.CopyOwn
import Derived.Deep.RegionLaw
import Derived.Laws.StructEq
import Derived.Deep.OwnRows
import Derived.Deep.DeepCutAuto
import Derived.Test.YtliaemoomhfcdaaProg
import Derived.Below
import Derived.Deep.Draws
import Derived.Deep.AppendLies
import Derived.Maps.AppendAt
import Derived.OwnWalk
import Derived.Laws.BytesArg
import Derived.Laws.MakeOwn
import Derived.Laws.OwnMore
import Derived.Tactics
import Derived.Lib.ConvBytes
import Derived.Laws.Slices
import Derived.WalkKit
import Derived.KernelRfl
import Derived.RowKit3
import Derived.Deep.LoopGhost
import Derived.Deep.QuietTactic
import Derived.BigQuiet
import Derived.WideLaws
import Derived.Deep.CutBlock
import Derived.Deep.RegionHeld3
import Derived.Laws.Rows
import Derived.Lib.AppendStr
import Derived.ArgAppend
import Derived.Laws.IdiomCopy
import Derived.OrdersHeld
import Derived.Laws.BitsLemmas
import Derived.RowKit
import Derived.Test.YtliaemoomhfcdaaMW
namespace Go.Proofs.Ytliaemoomhfcdaa
open Go.RowKit
set_option maxHeartbeats 2000000
set_option maxRecDepth 100000
set_option linter.unusedVariables false
set_option linter.unusedSimpArgs false

theorem reads_of_RI {w : World} {A : Option Addr} {n : Nat} {xs : List Int} (h : RI w A n xs) : ReadsInts w A n xs :=
  ⟨h.len, fun hn => by
    obtain ⟨ad, e, hb, hc⟩ := h.2 hn
    exact ⟨ad, e, hb, fun j x hj => hc j _ (by rw [List.getElem?_map, hj]; rfl)⟩⟩
/-- A call of a function, as one step of a region that draws its order. -/
theorem step_call1 {ops : Array Oper} {o : Oper} {a : Act} {w : World} {K : Act → World → Prop} {Q : Exit → Act → World → Prop} {E : Prop} (hgd : o.guard = none) (f : Nat) (x : Operand) (ts : Array TypeId)
    (ho : o.op = .call { callee := .value (.func f), args := #[x], argTypes := ts }) (eg : ∀ args w, (callFunc f args).run Try.prog w = .ok (.enter f args) w)
    (h : Calls Try.prog f #[a.eval x] w fun e w' => ∃ v, e = .returned v ∧ K (a.put o.dst v) w') :
    if Region.wanted o (yielded ops a.tmps) = true then Oper.wp Try.prog o a w K Q else E := by
 have hw : Region.wanted o (yielded ops a.tmps) = true := by simp [Region.wanted, hgd]
 rw [if_pos hw]
 unfold Oper.wp
 have hr : (execOp a.eval o).run Try.prog w = .ok (.enter f #[a.eval x]) w := by
   simp [execOp, ho, resolve, invoke, go_sem, eg, Result.andThen, Act.eval]
 rw [hr]
 refine h.mono ?_
 rintro e w' ⟨v, rfl, hk⟩
 exact hk
theorem own_fresh (W : World) (base : Nat) (hb : base ≤ W.heap.size) (l : List Value) (hl : l.length ≤ 1000000) : (W.alloc (.cells l.toArray 3)).ownsRow base 3 1 (.slice (some ⟨W.heap.size, 0, none⟩) l.length l.length) l.length l :=
  ⟨by simp, .inr ⟨W.heap.size, l.length, l.toArray, rfl, hb, heap_alloc_new _ _, Nat.le_refl _, by simp only [maxLen]; omega, by simp, by simp⟩⟩
/-- A block's cells from a place on, read as a slice. -/
theorem reads_block {W : World} {g : Nat} {cs : Array Value} {t : TypeId} (h : W.heap[g]? = some (.cells cs t (0, 0))) (o : Nat) (l : List Value) (hl : cs.toList.drop o = l) : Reads W W.heap.size 1 (some ⟨g, o, none⟩) l.length l := by
 refine ⟨by simp, fun h0 => ⟨_, rfl, ?_, fun j u hj => ?_⟩⟩
 · exact (Array.getElem?_eq_some_iff.1 h).1
 have : (⟨g, o, none⟩ : Addr).add j = ⟨g, o + j, none⟩ := by unfold Addr.add; split <;> simp_all
 rw [this, cell_of_row _ _ _ _ _ _ h, ← Array.getElem?_toList, ← List.getElem?_drop, hl]
 exact hj
theorem summed_any (f0 f1 f2 f3 f4 f5 f6 f7 f8 f9 f10 f11 f12 f13 f14 f15 : Int) (w : World) :
    Calls Try.prog 104 #[.agg #[.int .i64 f0, .int .i64 f1, .int .i64 f2, .int .i64 f3, .int .i64 f4, .int .i64 f5, .int .i64 f6, .int .i64 f7, .int .i64 f8, .int .i64 f9, .int .i64 f10, .int .i64 f11, .int .i64 f12, .int .i64 f13, .int .i64 f14, .int .i64 f15]] w fun e w' => e = .returned (.agg #[.int .i64 f0, .int .i64 f1, .int .i64 (sumOf [f0, f1, f3, f4, f5, f6, f7, f8, f9, f10, f11, f12, f13, f14, f15]), .int .i64 f3, .int .i64 f4, .int .i64 f5, .int .i64 f6, .int .i64 f7, .int .i64 f8, .int .i64 f9, .int .i64 f10, .int .i64 f11, .int .i64 f12, .int .i64 f13, .int .i64 f14, .int .i64 f15]) ∧ Below w.heap.size w w' := by
 obtain ⟨i0, hi0, hz0, hz1, hz2⟩ := info_parts int_info
 go_enter Try.func104, Try.ntmps104
 go_upto_region 1 with fail
 have h1 : ((w.alloc (.cells #[Value.int .i64 f0, Value.int .i64 f1, Value.int .i64 f2, Value.int .i64 f3, Value.int .i64 f4, Value.int .i64 f5, Value.int .i64 f6, Value.int .i64 f7, Value.int .i64 f8, Value.int .i64 f9, Value.int .i64 f10, Value.int .i64 f11, Value.int .i64 f12, Value.int .i64 f13, Value.int .i64 f14, Value.int .i64 f15] 98)).alloc (.cells #[Value.int .i64 0, Value.int .i64 0, Value.int .i64 0, Value.int .i64 0, Value.int .i64 0, Value.int .i64 0, Value.int .i64 0, Value.int .i64 0, Value.int .i64 0, Value.int .i64 0, Value.int .i64 0, Value.int .i64 0, Value.int .i64 0, Value.int .i64 0, Value.int .i64 0, Value.int .i64 0] 98)).heap[w.heap.size]? = some (.cells #[Value.int .i64 f0, Value.int .i64 f1, Value.int .i64 f2, Value.int .i64 f3, Value.int .i64 f4, Value.int .i64 f5, Value.int .i64 f6, Value.int .i64 f7, Value.int .i64 f8, Value.int .i64 f9, Value.int .i64 f10, Value.int .i64 f11, Value.int .i64 f12, Value.int .i64 f13, Value.int .i64 f14, Value.int .i64 f15] 98 (0, 0)) := (Below.heap_alloc _ _ _ (by simp)).trans (heap_alloc_new _ _)
 have hB1 : Below w.heap.size w ((w.alloc (.cells #[Value.int .i64 f0, Value.int .i64 f1, Value.int .i64 f2, Value.int .i64 f3, Value.int .i64 f4, Value.int .i64 f5, Value.int .i64 f6, Value.int .i64 f7, Value.int .i64 f8, Value.int .i64 f9, Value.int .i64 f10, Value.int .i64 f11, Value.int .i64 f12, Value.int .i64 f13, Value.int .i64 f14, Value.int .i64 f15] 98)).alloc (.cells #[Value.int .i64 0, Value.int .i64 0, Value.int .i64 0, Value.int .i64 0, Value.int .i64 0, Value.int .i64 0, Value.int .i64 0, Value.int .i64 0, Value.int .i64 0, Value.int .i64 0, Value.int .i64 0, Value.int .i64 0, Value.int .i64 0, Value.int .i64 0, Value.int .i64 0, Value.int .i64 0] 98)) := ((Below.refl _ _).alloc (Nat.le_refl _) _).alloc (by simp) _
 have hs1 : ((w.alloc (.cells #[Value.int .i64 f0, Value.int .i64 f1, Value.int .i64 f2, Value.int .i64 f3, Value.int .i64 f4, Value.int .i64 f5, Value.int .i64 f6, Value.int .i64 f7, Value.int .i64 f8, Value.int .i64 f9, Value.int .i64 f10, Value.int .i64 f11, Value.int .i64 f12, Value.int .i64 f13, Value.int .i64 f14, Value.int .i64 f15] 98)).alloc (.cells #[Value.int .i64 0, Value.int .i64 0, Value.int .i64 0, Value.int .i64 0, Value.int .i64 0, Value.int .i64 0, Value.int .i64 0, Value.int .i64 0, Value.int .i64 0, Value.int .i64 0, Value.int .i64 0, Value.int .i64 0, Value.int .i64 0, Value.int .i64 0, Value.int .i64 0, Value.int .i64 0] 98)).heap.size = w.heap.size + 1 + 1 := by simp
 have ho1 := own_fresh ((w.alloc (.cells #[Value.int .i64 f0, Value.int .i64 f1, Value.int .i64 f2, Value.int .i64 f3, Value.int .i64 f4, Value.int .i64 f5, Value.int .i64 f6, Value.int .i64 f7, Value.int .i64 f8, Value.int .i64 f9, Value.int .i64 f10, Value.int .i64 f11, Value.int .i64 f12, Value.int .i64 f13, Value.int .i64 f14, Value.int .i64 f15] 98)).alloc (.cells #[Value.int .i64 0, Value.int .i64 0, Value.int .i64 0, Value.int .i64 0, Value.int .i64 0, Value.int .i64 0, Value.int .i64 0, Value.int .i64 0, Value.int .i64 0, Value.int .i64 0, Value.int .i64 0, Value.int .i64 0, Value.int .i64 0, Value.int .i64 0, Value.int .i64 0, Value.int .i64 0] 98)) w.heap.size (by simp; omega) [.int .i64 f0, .int .i64 f1] (by simp)
 have hr1 := reads_block ((Below.heap_alloc _ (.cells #[.int .i64 f0, .int .i64 f1] 3) _ (by simp; omega)).trans h1) 3 [Value.int .i64 f3, Value.int .i64 f4, Value.int .i64 f5, Value.int .i64 f6, Value.int .i64 f7, Value.int .i64 f8, Value.int .i64 f9, Value.int .i64 f10, Value.int .i64 f11, Value.int .i64 f12, Value.int .i64 f13, Value.int .i64 f14, Value.int .i64 f15] rfl
 rw [hs1] at ho1
 have HOW := Lib.hid ho1
 have HRE := Lib.hid hr1
 have HB := Lib.hid hB1
 clear h1 hB1 hs1 ho1 hr1
 have hfin : ∀ w2, Below (((w.alloc (.cells #[Value.int .i64 f0, Value.int .i64 f1, Value.int .i64 f2, Value.int .i64 f3, Value.int .i64 f4, Value.int .i64 f5, Value.int .i64 f6, Value.int .i64 f7, Value.int .i64 f8, Value.int .i64 f9, Value.int .i64 f10, Value.int .i64 f11, Value.int .i64 f12, Value.int .i64 f13, Value.int .i64 f14, Value.int .i64 f15] 98)).alloc (.cells #[Value.int .i64 0, Value.int .i64 0, Value.int .i64 0, Value.int .i64 0, Value.int .i64 0, Value.int .i64 0, Value.int .i64 0, Value.int .i64 0, Value.int .i64 0, Value.int .i64 0, Value.int .i64 0, Value.int .i64 0, Value.int .i64 0, Value.int .i64 0, Value.int .i64 0, Value.int .i64 0] 98))).heap.size (((w.alloc (.cells #[Value.int .i64 f0, Value.int .i64 f1, Value.int .i64 f2, Value.int .i64 f3, Value.int .i64 f4, Value.int .i64 f5, Value.int .i64 f6, Value.int .i64 f7, Value.int .i64 f8, Value.int .i64 f9, Value.int .i64 f10, Value.int .i64 f11, Value.int .i64 f12, Value.int .i64 f13, Value.int .i64 f14, Value.int .i64 f15] 98)).alloc (.cells #[Value.int .i64 0, Value.int .i64 0, Value.int .i64 0, Value.int .i64 0, Value.int .i64 0, Value.int .i64 0, Value.int .i64 0, Value.int .i64 0, Value.int .i64 0, Value.int .i64 0, Value.int .i64 0, Value.int .i64 0, Value.int .i64 0, Value.int .i64 0, Value.int .i64 0, Value.int .i64 0] 98))) w2 → Hid (w2.heap[w.heap.size]? = some (.cells #[Value.int .i64 f0, Value.int .i64 f1, Value.int .i64 f2, Value.int .i64 f3, Value.int .i64 f4, Value.int .i64 f5, Value.int .i64 f6, Value.int .i64 f7, Value.int .i64 f8, Value.int .i64 f9, Value.int .i64 f10, Value.int .i64 f11, Value.int .i64 f12, Value.int .i64 f13, Value.int .i64 f14, Value.int .i64 f15] 98 (0, 0))) ∧ Hid (w2.heap[w.heap.size + 1]? = some (.cells #[Value.int .i64 0, Value.int .i64 0, Value.int .i64 0, Value.int .i64 0, Value.int .i64 0, Value.int .i64 0, Value.int .i64 0, Value.int .i64 0, Value.int .i64 0, Value.int .i64 0, Value.int .i64 0, Value.int .i64 0, Value.int .i64 0, Value.int .i64 0, Value.int .i64 0, Value.int .i64 0] 98 (0, 0))) ∧ Hid (Below w.heap.size w w2) := by
   intro w2 h
   refine ⟨Lib.hid ?_, Lib.hid ?_, Lib.hid ?_⟩
   · exact (h.block _ (by simp; omega)).trans ((Below.heap_alloc _ _ _ (by simp)).trans (heap_alloc_new _ _))
   · have := heap_alloc_new (w.alloc (.cells #[Value.int .i64 f0, Value.int .i64 f1, Value.int .i64 f2, Value.int .i64 f3, Value.int .i64 f4, Value.int .i64 f5, Value.int .i64 f6, Value.int .i64 f7, Value.int .i64 f8, Value.int .i64 f9, Value.int .i64 f10, Value.int .i64 f11, Value.int .i64 f12, Value.int .i64 f13, Value.int .i64 f14, Value.int .i64 f15] 98)) (.cells #[Value.int .i64 0, Value.int .i64 0, Value.int .i64 0, Value.int .i64 0, Value.int .i64 0, Value.int .i64 0, Value.int .i64 0, Value.int .i64 0, Value.int .i64 0, Value.int .i64 0, Value.int .i64 0, Value.int .i64 0, Value.int .i64 0, Value.int .i64 0, Value.int .i64 0, Value.int .i64 0] 98)
     rw [World.size_alloc] at this
     exact (h.block _ (by simp)).trans this
   · exact HB.out.trans (h.mono (by simp; omega))
 have HFIN := Lib.hid hfin
 clear hfin
 go_cut [3] (fun s wc => ∃ A2 c2, s = .slice A2 15 c2 ∧ 15 ≤ c2 ∧ Hid (RI wc A2 15 [f0, f1, f3, f4, f5, f6, f7, f8, f9, f10, f11, f12, f13, f14, f15]) ∧ Hid (wc.heap[w.heap.size]? = some (.cells #[Value.int .i64 f0, Value.int .i64 f1, Value.int .i64 f2, Value.int .i64 f3, Value.int .i64 f4, Value.int .i64 f5, Value.int .i64 f6, Value.int .i64 f7, Value.int .i64 f8, Value.int .i64 f9, Value.int .i64 f10, Value.int .i64 f11, Value.int .i64 f12, Value.int .i64 f13, Value.int .i64 f14, Value.int .i64 f15] 98 (0, 0))) ∧ Hid (wc.heap[w.heap.size + 1]? = some (.cells #[Value.int .i64 0, Value.int .i64 0, Value.int .i64 0, Value.int .i64 0, Value.int .i64 0, Value.int .i64 0, Value.int .i64 0, Value.int .i64 0, Value.int .i64 0, Value.int .i64 0, Value.int .i64 0, Value.int .i64 0, Value.int .i64 0, Value.int .i64 0, Value.int .i64 0, Value.int .i64 0] 98 (0, 0))) ∧ Hid (Below w.heap.size w wc))
 case first =>
  go_region_law (refine step_append_any _ rfl (.tmp 8) (.tmp 9) 22 rfl w.heap.size 3 i0 (.int .i64 0) 1 8 Try.underlying22 hi0 hz0 hz1 hz2 rfl (by omega) (.slice (some ⟨w.heap.size + 1 + 1, 0, none⟩) 2 2) 2 [.int .i64 f0, .int .i64 f1] rfl HOW.out _ _ 13 _ [Value.int .i64 f3, Value.int .i64 f4, Value.int .i64 f5, Value.int .i64 f6, Value.int .i64 f7, Value.int .i64 f8, Value.int .i64 f9, Value.int .i64 f10, Value.int .i64 f11, Value.int .i64 f12, Value.int .i64 f13, Value.int .i64 f14, Value.int .i64 f15] rfl HRE.out (by simp [Value.oneCell']) (by unfold maxLen; omega) (by omega) (by simp; omega) ?_; intro v2 w2 hown2 hg2 hat2; obtain ⟨A2, c2, rfl, hc2, hri⟩ := own_cap (xs := [f0, f1, f3, f4, f5, f6, f7, f8, f9, f10, f11, f12, f13, f14, f15]) hown2; have hlow := HFIN.out w2 ((((Below.refl (((w.alloc (.cells #[Value.int .i64 f0, Value.int .i64 f1, Value.int .i64 f2, Value.int .i64 f3, Value.int .i64 f4, Value.int .i64 f5, Value.int .i64 f6, Value.int .i64 f7, Value.int .i64 f8, Value.int .i64 f9, Value.int .i64 f10, Value.int .i64 f11, Value.int .i64 f12, Value.int .i64 f13, Value.int .i64 f14, Value.int .i64 f15] 98)).alloc (.cells #[Value.int .i64 0, Value.int .i64 0, Value.int .i64 0, Value.int .i64 0, Value.int .i64 0, Value.int .i64 0, Value.int .i64 0, Value.int .i64 0, Value.int .i64 0, Value.int .i64 0, Value.int .i64 0, Value.int .i64 0, Value.int .i64 0, Value.int .i64 0, Value.int .i64 0, Value.int .i64 0] 98))).heap.size (((w.alloc (.cells #[Value.int .i64 f0, Value.int .i64 f1, Value.int .i64 f2, Value.int .i64 f3, Value.int .i64 f4, Value.int .i64 f5, Value.int .i64 f6, Value.int .i64 f7, Value.int .i64 f8, Value.int .i64 f9, Value.int .i64 f10, Value.int .i64 f11, Value.int .i64 f12, Value.int .i64 f13, Value.int .i64 f14, Value.int .i64 f15] 98)).alloc (.cells #[Value.int .i64 0, Value.int .i64 0, Value.int .i64 0, Value.int .i64 0, Value.int .i64 0, Value.int .i64 0, Value.int .i64 0, Value.int .i64 0, Value.int .i64 0, Value.int .i64 0, Value.int .i64 0, Value.int .i64 0, Value.int .i64 0, Value.int .i64 0, Value.int .i64 0, Value.int .i64 0] 98)))).alloc (Nat.le_refl _) (.cells #[.int .i64 f0, .int .i64 f1] 3)).drew).grown hg2 (by simp) (fun k hk => by have hk' : w.heap.size + 1 + 1 = k := (by simpa [Value.ownBlock] using hk); rw [← hk']; simp)))
  all_goals (go_wp2_with fail; go_meet; exact ⟨_, _, rfl, hc2, Lib.hid hri, hlow⟩)
 case rest =>
  obtain ⟨A2, c2, rfl, hc2, HRI, HC1, HC2, HBB⟩ := hcut
  obtain ⟨W3, rfl⟩ : ∃ W3 : World, W3 = wc := ⟨_, rfl⟩
  have hl1 : w.heap.size < W3.heap.size := (Array.getElem?_eq_some_iff.1 HC1.out).1
  have hl2 : w.heap.size + 1 < W3.heap.size := (Array.getElem?_eq_some_iff.1 HC2.out).1
  go_wp2_with (first
    | (go_at_call 98; refine (of_call _ _ _ [f0, f1, f3, f4, f5, f6, f7, f8, f9, f10, f11, f12, f13, f14, f15] _ (reads_of_RI HRI.out) (by omega)).mono ?_; rintro e w5 ⟨rfl, hB5⟩; have h5a := (hB5.block _ hl1).trans HC1.out; have hcl := (cell_of_row w5 w.heap.size 2 _ _ _ h5a); have hfz := frozen_of_row w5 w.heap.size 2 _ _ h5a; have H5A := Lib.hid h5a; have H5B := Lib.hid ((hB5.block _ hl2).trans HC2.out); have HB5 := Lib.hid hB5; clear h5a hB5)
    | (refine wpList_load_row rfl 98 _ rfl w.heap.size rfl 98 #[Value.int .i64 f0, Value.int .i64 f1, Value.int .i64 (sumOf [f0, f1, f3, f4, f5, f6, f7, f8, f9, f10, f11, f12, f13, f14, f15]), Value.int .i64 f3, Value.int .i64 f4, Value.int .i64 f5, Value.int .i64 f6, Value.int .i64 f7, Value.int .i64 f8, Value.int .i64 f9, Value.int .i64 f10, Value.int .i64 f11, Value.int .i64 f12, Value.int .i64 f13, Value.int .i64 f14, Value.int .i64 f15] (0, 0) _ ((heap_setCell_same _ _ _ _ _ _ H5A.out).trans rfl) Try.underlying98 rfl (by kernel_rfl) ?_)
    | (refine wpList_store_row rfl 98 _ _ rfl (w.heap.size + 1) #[Value.int .i64 f0, Value.int .i64 f1, Value.int .i64 (sumOf [f0, f1, f3, f4, f5, f6, f7, f8, f9, f10, f11, f12, f13, f14, f15]), Value.int .i64 f3, Value.int .i64 f4, Value.int .i64 f5, Value.int .i64 f6, Value.int .i64 f7, Value.int .i64 f8, Value.int .i64 f9, Value.int .i64 f10, Value.int .i64 f11, Value.int .i64 f12, Value.int .i64 f13, Value.int .i64 f14, Value.int .i64 f15] rfl rfl 98 #[Value.int .i64 0, Value.int .i64 0, Value.int .i64 0, Value.int .i64 0, Value.int .i64 0, Value.int .i64 0, Value.int .i64 0, Value.int .i64 0, Value.int .i64 0, Value.int .i64 0, Value.int .i64 0, Value.int .i64 0, Value.int .i64 0, Value.int .i64 0, Value.int .i64 0, Value.int .i64 0] ((Below.heap_setCell w5 ⟨w.heap.size, 2, none⟩ _ (w.heap.size + 1) (by simp)).trans H5B.out) (by kernel_rfl) rfl (by simp [Value.oneCell']) ?_))
  exact bodyPost_ret_by (results_cell_row rfl _ _ _ _ _ _ _ rfl (setRow_heap _ _ _ _ _ _ ((Below.heap_setCell w5 ⟨w.heap.size, 2, none⟩ _ (w.heap.size + 1) (by simp)).trans H5B.out)) Try.underlying98 rfl (by kernel_rfl)) rfl ⟨rfl, below_setRow ((HBB.out.next HB5.out).setCell (p := ⟨w.heap.size, 2, none⟩) (Nat.le_refl _) _) (by omega) _⟩

/-- Three words, of a text's. -/
def pad3 (l : List Int) (i : Nat) : Int := l.getD i 0
theorem splice3_ (a b c : Value) (t : List Value) (l : List Int) (h : l.length ≤ 3) :
    splice (a :: b :: c :: Value.int .i64 0 :: Value.int .i64 0 :: Value.int .i64 0 :: t) 3 (ints l) = a :: b :: c :: Value.int .i64 (pad3 l 0) :: Value.int .i64 (pad3 l 1) :: Value.int .i64 (pad3 l 2) :: t := by
 match l, h with
 | [], _ => rfl
 | [x], _ => rfl
 | [x, y], _ => rfl
 | [x, y, z], _ => rfl
 | x :: y :: z :: u :: l, h => simp at h
theorem splice6_ (a b c d e f : Value) (t : List Value) (l : List Int) (h : l.length ≤ 3) :
    splice (a :: b :: c :: d :: e :: f :: Value.int .i64 0 :: Value.int .i64 0 :: Value.int .i64 0 :: t) 6 (ints l) = a :: b :: c :: d :: e :: f :: Value.int .i64 (pad3 l 0) :: Value.int .i64 (pad3 l 1) :: Value.int .i64 (pad3 l 2) :: t := by
 match l, h with
 | [], _ => rfl
 | [x], _ => rfl
 | [x, y], _ => rfl
 | [x, y, z], _ => rfl
 | x :: y :: z :: u :: l, h => simp at h
theorem words_len (s : ByteArray) : (wordsOf s).length = pieceCount s := by unfold wordsOf piecesTo; simp
/-- A record's words. -/
def recList (kind n k0 k1 k2 v0 v1 v2 : Int) : List Int := [kind, n, sumOf [kind, n, k0, k1, k2, v0, v1, v2, 0, 0, 0, 0, 0, 0, 0], k0, k1, k2, v0, v1, v2, 0, 0, 0, 0, 0, 0, 0]
def recWords (kind : Int) (key val : ByteArray) (child : Int) : List Int :=
  recList kind (32 * (key.size : Int) + (val.size : Int)) (pad3 (wordsOf key) 0) (pad3 (wordsOf key) 1) (pad3 (wordsOf key) 2) (if kind = 2 then child else pad3 (wordsOf val) 0) (pad3 (wordsOf val) 1) (pad3 (wordsOf val) 2)
theorem of_any (kind : Int) (key val : ByteArray) (child : Int) (hk : key.size ≤ 21) (hv : val.size ≤ 21) (w : World) :
    Calls Try.prog 76 #[.agg #[.int .i64 kind, .string key, .string val, .int .i64 child]] w fun e w' => e = .returned (.agg (ints (recWords kind key val child)).toArray) ∧ Below w.heap.size w w' := by
 have hlk : (wordsOf key).length ≤ 3 := by rw [words_len]; unfold pieceCount; omega
 have hlv : (wordsOf val).length ≤ 3 := by rw [words_len]; unfold pieceCount; omega
 obtain ⟨nn, hnn⟩ : ∃ nn : Int, nn = 32 * (key.size : Int) + (val.size : Int) := ⟨_, rfl⟩
 have HNN := Lib.hid hnn
 clear hnn
 have hn2 : 32 * (key.size : Int) + (val.size : Int) = nn := HNN.out.symm
 go_enter Try.func76, Try.ntmps76
 go_upto_region 1 with fail
 go_cut [3] (fun s wc => s = .pointer (some ⟨w.heap.size + 1 + 1, 0, none⟩) ∧ Hid (wc.heap[w.heap.size]? = some (.cells #[Value.int .i64 kind, Value.string key, Value.string val, Value.int .i64 child] 62 (0, 0))) ∧ Hid (wc.heap[w.heap.size + 1]? = some (.cells #[Value.int .i64 0, Value.int .i64 0, Value.int .i64 0, Value.int .i64 0, Value.int .i64 0, Value.int .i64 0, Value.int .i64 0, Value.int .i64 0, Value.int .i64 0, Value.int .i64 0, Value.int .i64 0, Value.int .i64 0, Value.int .i64 0, Value.int .i64 0, Value.int .i64 0, Value.int .i64 0] 98 (0, 0))) ∧ Hid (wc.heap[w.heap.size + 1 + 1]? = some (.cells #[Value.int .i64 kind, Value.int .i64 nn, Value.int .i64 0, Value.int .i64 0, Value.int .i64 0, Value.int .i64 0, Value.int .i64 0, Value.int .i64 0, Value.int .i64 0, Value.int .i64 0, Value.int .i64 0, Value.int .i64 0, Value.int .i64 0, Value.int .i64 0, Value.int .i64 0, Value.int .i64 0] 98 (0, 0))) ∧ Hid (Below w.heap.size w wc))
 case first =>
  go_wp2_with fail
  go_meet
  refine ⟨rfl, Lib.hid ?_, Lib.hid ?_, Lib.hid ?_, Lib.hid ?_⟩
  · exact (Below.heap_alloc _ _ _ (by simp; omega)).trans ((Below.heap_alloc _ _ _ (by simp)).trans (heap_alloc_new _ _))
  · have := heap_alloc_new (w.alloc (.cells #[Value.int .i64 kind, Value.string key, Value.string val, Value.int .i64 child] 62)) (.cells #[Value.int .i64 0, Value.int .i64 0, Value.int .i64 0, Value.int .i64 0, Value.int .i64 0, Value.int .i64 0, Value.int .i64 0, Value.int .i64 0, Value.int .i64 0, Value.int .i64 0, Value.int .i64 0, Value.int .i64 0, Value.int .i64 0, Value.int .i64 0, Value.int .i64 0, Value.int .i64 0] 98)
    rw [World.size_alloc] at this
    exact (Below.heap_alloc _ _ _ (by simp)).trans this
  · have := heap_alloc_new ((w.alloc (.cells #[Value.int .i64 kind, Value.string key, Value.string val, Value.int .i64 child] 62)).alloc (.cells #[Value.int .i64 0, Value.int .i64 0, Value.int .i64 0, Value.int .i64 0, Value.int .i64 0, Value.int .i64 0, Value.int .i64 0, Value.int .i64 0, Value.int .i64 0, Value.int .i64 0, Value.int .i64 0, Value.int .i64 0, Value.int .i64 0, Value.int .i64 0, Value.int .i64 0, Value.int .i64 0] 98)) (.cells #[Value.int .i64 kind, Value.int .i64 nn, Value.int .i64 0, Value.int .i64 0, Value.int .i64 0, Value.int .i64 0, Value.int .i64 0, Value.int .i64 0, Value.int .i64 0, Value.int .i64 0, Value.int .i64 0, Value.int .i64 0, Value.int .i64 0, Value.int .i64 0, Value.int .i64 0, Value.int .i64 0] 98)
    rw [World.size_alloc, World.size_alloc] at this
    exact this
  exact (((Below.refl _ _).alloc (Nat.le_refl _) _).alloc (by simp) _).alloc (by simp; omega) _
 case rest =>
 obtain ⟨rfl, HR0, HR1, HR2, HB0⟩ := hcut
 obtain ⟨W0, rfl⟩ : ∃ W0 : World, W0 = wc := ⟨_, rfl⟩
 have hl2 : w.heap.size + 1 + 1 < W0.heap.size := (Array.getElem?_eq_some_iff.1 HR2.out).1
 have HL2 := Lib.hid hl2
 clear hl2
 go_upto_region 2 with fail
 have hkc : W0.cell? ⟨w.heap.size, 1, none⟩ = some (.string key) := cell_of_row _ _ _ _ _ _ HR0.out
 go_cut [] (fun wc => Hid (wc.heap[w.heap.size]? = some (.cells #[Value.int .i64 kind, Value.string key, Value.string val, Value.int .i64 child] 62 (0, 0))) ∧ Hid (wc.heap[w.heap.size + 1]? = some (.cells #[Value.int .i64 0, Value.int .i64 0, Value.int .i64 0, Value.int .i64 0, Value.int .i64 0, Value.int .i64 0, Value.int .i64 0, Value.int .i64 0, Value.int .i64 0, Value.int .i64 0, Value.int .i64 0, Value.int .i64 0, Value.int .i64 0, Value.int .i64 0, Value.int .i64 0, Value.int .i64 0] 98 (0, 0))) ∧ Hid (wc.heap[w.heap.size + 1 + 1]? = some (.cells #[Value.int .i64 kind, Value.int .i64 nn, Value.int .i64 0, Value.int .i64 (pad3 (wordsOf key) 0), Value.int .i64 (pad3 (wordsOf key) 1), Value.int .i64 (pad3 (wordsOf key) 2), Value.int .i64 0, Value.int .i64 0, Value.int .i64 0, Value.int .i64 0, Value.int .i64 0, Value.int .i64 0, Value.int .i64 0, Value.int .i64 0, Value.int .i64 0, Value.int .i64 0] 98 (0, 0))) ∧ Hid (Below w.heap.size w wc))
 case first =>
  go_region_law (first
    | (refine step_call1 rfl 103 (.tmp 17) _ rfl (enters_of Try.func103 (by kernel_rfl) rfl) ?_; refine (words_any key (by omega) _).mono ?_; rintro e w5 ⟨v5, rfl, hown, hB5⟩; refine ⟨_, rfl, ?_⟩; obtain ⟨A5, c5, rfl, hc5, hri5⟩ := own_cap hown; have H5 := Lib.hid ((hB5.block _ (by have := HL2.out; simpa using this)).trans HR2.out))
    | (refine step_copy_splice rfl (.tmp 15) (.tmp 18) 22 22 rfl 3 Try.underlying22 (by kernel_rfl) _ _ _ _ _ _ rfl rfl (w.heap.size + 1 + 1) 3 [Value.int .i64 kind, Value.int .i64 nn, Value.int .i64 0, Value.int .i64 0, Value.int .i64 0, Value.int .i64 0, Value.int .i64 0, Value.int .i64 0, Value.int .i64 0, Value.int .i64 0, Value.int .i64 0, Value.int .i64 0, Value.int .i64 0, Value.int .i64 0, Value.int .i64 0, Value.int .i64 0] 98 H5.out (ints (wordsOf key)) (by rw [List.length_map]; exact (Nat.min_eq_left (by omega)).symm) (fun h0 => ⟨rfl, (hri5.2 (by simpa using h0)).imp fun ad hh => ⟨hh.1, hh.2.2⟩⟩) (by simp; omega) (ints_one _) (w.heap.size + 1 + 1) W0 ((Below.refl _ W0).drew.trans (hB5.mono (Nat.le_of_lt HL2.out))) (Nat.le_refl _) ?_; intro w6 HG6 hB6))
  all_goals (go_wp2_with fail; go_meet; exact ⟨Lib.hid ((hB6.block _ (by omega)).trans HR0.out), Lib.hid ((hB6.block _ (by omega)).trans HR1.out), Lib.hid (by have := HG6.out; rw [splice3_ _ _ _ _ _ hlk] at this; exact this), Lib.hid (HB0.out.trans (hB6.mono (by omega)))⟩)
 case rest =>
 obtain ⟨HS0, HS1, HS2, HB1⟩ := hcut
 obtain ⟨W1, rfl⟩ : ∃ W1 : World, W1 = wc := ⟨_, rfl⟩
 clear HR0 HR1 HR2 HB0 hkc HL2
 have hl2 : w.heap.size + 1 + 1 < W1.heap.size := (Array.getElem?_eq_some_iff.1 HS2.out).1
 have HL2 := Lib.hid hl2
 clear hl2
 go_upto_region 3 with fail
 have hvc : W1.cell? ⟨w.heap.size, 2, none⟩ = some (.string val) := cell_of_row _ _ _ _ _ _ HS0.out
 go_cut [] (fun wc => Hid (wc.heap[w.heap.size]? = some (.cells #[Value.int .i64 kind, Value.string key, Value.string val, Value.int .i64 child] 62 (0, 0))) ∧ Hid (wc.heap[w.heap.size + 1]? = some (.cells #[Value.int .i64 0, Value.int .i64 0, Value.int .i64 0, Value.int .i64 0, Value.int .i64 0, Value.int .i64 0, Value.int .i64 0, Value.int .i64 0, Value.int .i64 0, Value.int .i64 0, Value.int .i64 0, Value.int .i64 0, Value.int .i64 0, Value.int .i64 0, Value.int .i64 0, Value.int .i64 0] 98 (0, 0))) ∧ Hid (wc.heap[w.heap.size + 1 + 1]? = some (.cells #[Value.int .i64 kind, Value.int .i64 nn, Value.int .i64 0, Value.int .i64 (pad3 (wordsOf key) 0), Value.int .i64 (pad3 (wordsOf key) 1), Value.int .i64 (pad3 (wordsOf key) 2), Value.int .i64 (pad3 (wordsOf val) 0), Value.int .i64 (pad3 (wordsOf val) 1), Value.int .i64 (pad3 (wordsOf val) 2), Value.int .i64 0, Value.int .i64 0, Value.int .i64 0, Value.int .i64 0, Value.int .i64 0, Value.int .i64 0, Value.int .i64 0] 98 (0, 0))) ∧ Hid (Below w.heap.size w wc))
 case first =>
  go_region_law (first
    | (refine step_call1 rfl 103 (.tmp 22) _ rfl (enters_of Try.func103 (by kernel_rfl) rfl) ?_; refine (words_any val (by omega) _).mono ?_; rintro e w5 ⟨v5, rfl, hown, hB5⟩; refine ⟨_, rfl, ?_⟩; obtain ⟨A5, c5, rfl, hc5, hri5⟩ := own_cap hown; have H5 := Lib.hid ((hB5.block _ (by have := HL2.out; simpa using this)).trans HS2.out))
    | (refine step_copy_splice rfl (.tmp 20) (.tmp 23) 22 22 rfl 3 Try.underlying22 (by kernel_rfl) _ _ _ _ _ _ rfl rfl (w.heap.size + 1 + 1) 6 [Value.int .i64 kind, Value.int .i64 nn, Value.int .i64 0, Value.int .i64 (pad3 (wordsOf key) 0), Value.int .i64 (pad3 (wordsOf key) 1), Value.int .i64 (pad3 (wordsOf key) 2), Value.int .i64 0, Value.int .i64 0, Value.int .i64 0, Value.int .i64 0, Value.int .i64 0, Value.int .i64 0, Value.int .i64 0, Value.int .i64 0, Value.int .i64 0, Value.int .i64 0] 98 H5.out (ints (wordsOf val)) (by rw [List.length_map]; exact (Nat.min_eq_left (by omega)).symm) (fun h0 => ⟨rfl, (hri5.2 (by simpa using h0)).imp fun ad hh => ⟨hh.1, hh.2.2⟩⟩) (by simp; omega) (ints_one _) (w.heap.size + 1 + 1) W1 ((Below.refl _ W1).drew.trans (hB5.mono (Nat.le_of_lt HL2.out))) (Nat.le_refl _) ?_; intro w6 HG6 hB6))
  all_goals (go_wp2_with fail; go_meet; exact ⟨Lib.hid ((hB6.block _ (by omega)).trans HS0.out), Lib.hid ((hB6.block _ (by omega)).trans HS1.out), Lib.hid (by have := HG6.out; rw [splice6_ _ _ _ _ _ _ _ _ hlv] at this; exact this), Lib.hid (HB1.out.trans (hB6.mono (by omega)))⟩)
 case rest =>
 obtain ⟨HT0, HT1, HT2, HB2⟩ := hcut
 obtain ⟨W2, rfl⟩ : ∃ W2 : World, W2 = wc := ⟨_, rfl⟩
 clear HS0 HS1 HS2 HB1 hvc HL2
 have hkd : W2.cell? ⟨w.heap.size, 0, none⟩ = some (.int .i64 kind) := cell_of_row _ _ _ _ _ _ HT0.out
 have hch : W2.cell? ⟨w.heap.size, 3, none⟩ = some (.int .i64 child) := cell_of_row _ _ _ _ _ _ HT0.out
 have hc6 : W2.cell? ⟨w.heap.size + 1 + 1, 6, none⟩ = some (.int .i64 (pad3 (wordsOf val) 0)) := cell_of_row _ _ _ _ _ _ HT2.out
 have hf6 : W2.frozen? ⟨w.heap.size + 1 + 1, 6, none⟩ = false := frozen_of_row _ _ _ _ _ HT2.out
 by_cases hk2 : kind = 2
 · subst hk2
   go_upto_region 6 with fail
   have hrow := (heap_setCell_same _ _ 6 _ _ (.int .i64 child) HT2.out).trans rfl
   have HROW := Lib.hid hrow
   have h1r := (Below.heap_setCell W2 ⟨w.heap.size + 1 + 1, 6, none⟩ (.int .i64 child) (w.heap.size + 1) (by simp)).trans HT1.out
   have H1R := Lib.hid h1r
   have hl1 : w.heap.size + 1 < (W2.setCell ⟨w.heap.size + 1 + 1, 6, none⟩ (.int .i64 child)).heap.size := (Array.getElem?_eq_some_iff.1 h1r).1
   have HL1 := Lib.hid hl1
   clear hrow h1r hl1
   go_wp2_with (first
     | (refine wpList_load_row rfl 98 _ rfl (w.heap.size + 1 + 1) rfl 98 #[Value.int .i64 2, Value.int .i64 nn, Value.int .i64 0, Value.int .i64 (pad3 (wordsOf key) 0), Value.int .i64 (pad3 (wordsOf key) 1), Value.int .i64 (pad3 (wordsOf key) 2), Value.int .i64 child, Value.int .i64 (pad3 (wordsOf val) 1), Value.int .i64 (pad3 (wordsOf val) 2), Value.int .i64 0, Value.int .i64 0, Value.int .i64 0, Value.int .i64 0, Value.int .i64 0, Value.int .i64 0, Value.int .i64 0] (0, 0) _ HROW.out Try.underlying98 rfl (by kernel_rfl) ?_)
     | (go_at_call 104; refine (summed_any 2 nn 0 (pad3 (wordsOf key) 0) (pad3 (wordsOf key) 1) (pad3 (wordsOf key) 2) child (pad3 (wordsOf val) 1) (pad3 (wordsOf val) 2) 0 0 0 0 0 0 0 _).mono ?_; rintro e w7 ⟨rfl, hB7⟩; have H7 := Lib.hid ((hB7.block (w.heap.size + 1) HL1.out).trans H1R.out); have HB7 := Lib.hid hB7; clear hB7)
     | (refine wpList_store_row rfl 98 _ _ rfl (w.heap.size + 1) #[Value.int .i64 2, Value.int .i64 nn, Value.int .i64 (sumOf [2, nn, (pad3 (wordsOf key) 0), (pad3 (wordsOf key) 1), (pad3 (wordsOf key) 2), child, (pad3 (wordsOf val) 1), (pad3 (wordsOf val) 2), 0, 0, 0, 0, 0, 0, 0]), Value.int .i64 (pad3 (wordsOf key) 0), Value.int .i64 (pad3 (wordsOf key) 1), Value.int .i64 (pad3 (wordsOf key) 2), Value.int .i64 child, Value.int .i64 (pad3 (wordsOf val) 1), Value.int .i64 (pad3 (wordsOf val) 2), Value.int .i64 0, Value.int .i64 0, Value.int .i64 0, Value.int .i64 0, Value.int .i64 0, Value.int .i64 0, Value.int .i64 0] rfl rfl 98 #[Value.int .i64 0, Value.int .i64 0, Value.int .i64 0, Value.int .i64 0, Value.int .i64 0, Value.int .i64 0, Value.int .i64 0, Value.int .i64 0, Value.int .i64 0, Value.int .i64 0, Value.int .i64 0, Value.int .i64 0, Value.int .i64 0, Value.int .i64 0, Value.int .i64 0, Value.int .i64 0] H7.out (by kernel_rfl) rfl (by simp [Value.oneCell']) ?_))
   refine bodyPost_ret_by (results_cell_row rfl _ _ _ _ _ _ _ rfl (setRow_heap _ _ _ _ _ _ H7.out) Try.underlying98 rfl (by kernel_rfl)) rfl ⟨?_, below_setRow ((HB2.out.setCell (p := ⟨w.heap.size + 1 + 1, 6, none⟩) (by simp; omega) (.int .i64 child)).next HB7.out) (by omega) _⟩
   unfold recWords
   rw [if_pos rfl, ← HNN.out]
   rfl
 go_upto_region 6 with fail
 have hrow := HT2.out
 have HROW := Lib.hid hrow
 have h1r := HT1.out
 have H1R := Lib.hid h1r
 have hl1 : w.heap.size + 1 < (W2).heap.size := (Array.getElem?_eq_some_iff.1 h1r).1
 have HL1 := Lib.hid hl1
 clear hrow h1r hl1
 go_wp2_with (first
   | (refine wpList_load_row rfl 98 _ rfl (w.heap.size + 1 + 1) rfl 98 #[Value.int .i64 kind, Value.int .i64 nn, Value.int .i64 0, Value.int .i64 (pad3 (wordsOf key) 0), Value.int .i64 (pad3 (wordsOf key) 1), Value.int .i64 (pad3 (wordsOf key) 2), Value.int .i64 (pad3 (wordsOf val) 0), Value.int .i64 (pad3 (wordsOf val) 1), Value.int .i64 (pad3 (wordsOf val) 2), Value.int .i64 0, Value.int .i64 0, Value.int .i64 0, Value.int .i64 0, Value.int .i64 0, Value.int .i64 0, Value.int .i64 0] (0, 0) _ HROW.out Try.underlying98 rfl (by kernel_rfl) ?_)
   | (go_at_call 104; refine (summed_any kind nn 0 (pad3 (wordsOf key) 0) (pad3 (wordsOf key) 1) (pad3 (wordsOf key) 2) (pad3 (wordsOf val) 0) (pad3 (wordsOf val) 1) (pad3 (wordsOf val) 2) 0 0 0 0 0 0 0 _).mono ?_; rintro e w7 ⟨rfl, hB7⟩; have H7 := Lib.hid ((hB7.block (w.heap.size + 1) HL1.out).trans H1R.out); have HB7 := Lib.hid hB7; clear hB7)
   | (refine wpList_store_row rfl 98 _ _ rfl (w.heap.size + 1) #[Value.int .i64 kind, Value.int .i64 nn, Value.int .i64 (sumOf [kind, nn, (pad3 (wordsOf key) 0), (pad3 (wordsOf key) 1), (pad3 (wordsOf key) 2), (pad3 (wordsOf val) 0), (pad3 (wordsOf val) 1), (pad3 (wordsOf val) 2), 0, 0, 0, 0, 0, 0, 0]), Value.int .i64 (pad3 (wordsOf key) 0), Value.int .i64 (pad3 (wordsOf key) 1), Value.int .i64 (pad3 (wordsOf key) 2), Value.int .i64 (pad3 (wordsOf val) 0), Value.int .i64 (pad3 (wordsOf val) 1), Value.int .i64 (pad3 (wordsOf val) 2), Value.int .i64 0, Value.int .i64 0, Value.int .i64 0, Value.int .i64 0, Value.int .i64 0, Value.int .i64 0, Value.int .i64 0] rfl rfl 98 #[Value.int .i64 0, Value.int .i64 0, Value.int .i64 0, Value.int .i64 0, Value.int .i64 0, Value.int .i64 0, Value.int .i64 0, Value.int .i64 0, Value.int .i64 0, Value.int .i64 0, Value.int .i64 0, Value.int .i64 0, Value.int .i64 0, Value.int .i64 0, Value.int .i64 0, Value.int .i64 0] H7.out (by kernel_rfl) rfl (by simp [Value.oneCell']) ?_))
 refine bodyPost_ret_by (results_cell_row rfl _ _ _ _ _ _ _ rfl (setRow_heap _ _ _ _ _ _ H7.out) Try.underlying98 rfl (by kernel_rfl)) rfl ⟨?_, below_setRow ((HB2.out).next HB7.out) (by omega) _⟩
 unfold recWords
 rw [if_neg hk2, ← HNN.out]
 rfl
end Go.Proofs.Ytliaemoomhfcdaa
namespace Go.Proofs.Ytliaemoomhfcdaa
open Go.RowKit
set_option maxHeartbeats 4000000
set_option maxRecDepth 100000
set_option linter.unusedVariables false
set_option linter.unusedSimpArgs false
theorem part_int (xs : Array Value) (i : Nat) (x : Int) (h : xs[i]? = some (.int .i64 x)) (w : World) : (part 3 xs i).run Try.prog w = .ok (.int .i64 x) w := by
 simp [part, go_sem, h]
theorem eq_loop (xs ys : List Int) (d : Nat) : ∀ (is : List Nat) (w : World), (∀ i ∈ is, i < xs.length ∧ i < ys.length) →
    (forIn (m := Sem) is ((none : Option Bool), ()) (fun i (_ : Option Bool × Unit) => (do
      let a ← part 3 (ints xs).toArray i
      let b ← part 3 (ints ys).toArray i
      let r ← Op.equalIn (d + 1) 3 a b
      if (!r) = true then pure (ForInStep.done (some false, ())) else pure (ForInStep.yield (none, ())) : Sem (ForInStep (Option Bool × Unit))))).run Try.prog w =
      Result.ok (if is.all (fun i => xs[i]? == ys[i]?) then (none, ()) else (some false, ())) w
  | [], w, _ => by simp [Sem.run_pure]
  | i :: is, w, h => by
    obtain ⟨h1, h2⟩ := h i (by simp)
    have p1 := part_int (ints xs).toArray i xs[i] (by simp [h1]) w
    have p2 := part_int (ints ys).toArray i ys[i] (by simp [h2]) w
    have p3 : (Op.equalIn (d + 1) 3 (.int .i64 xs[i]) (.int .i64 ys[i])).run Try.prog w = .ok (xs[i] == ys[i]) w := run_equalIn_int w d 3 .i64 .i64 _ _ Try.underlying3
    rw [List.forIn_cons]
    simp only [Sem.run_bind, p1, p2, p3, Result.andThen_ok]
    rw [List.all_cons, List.getElem?_eq_getElem h1, List.getElem?_eq_getElem h2]
    cases he : (xs[i] == ys[i]) with
    | true =>
      have hv : xs[i] = ys[i] := by simpa using he
      simp only [Bool.not_true, Bool.false_eq_true, if_false, Sem.run_pure, Result.andThen_ok]
      rw [eq_loop xs ys d is w (fun j hj => h j (by simp [hj]))]
      simp [hv]
    | false =>
      have hv : ¬ xs[i] = ys[i] := by simpa using he
      simp [hv, Sem.run_pure]
theorem eqArr (xs ys : List Int) (w : World) (d : Nat) (hx : xs.length = 16) (hy : ys.length = 16) : (Op.equalIn (d + 1 + 1) 98 (.agg (ints xs).toArray) (.agg (ints ys).toArray)).run Try.prog w = .ok (xs == ys) w := by
 rw [Op.equalIn]
 simp only [Sem.run_bind, run_underlying Try.underlying98, Result.andThen_ok]
 have hsz : (sizeOf 3).run Try.prog w = .ok 1 w := by simp [go_sem]
 rw [hsz]
 simp only [Result.andThen_ok, Nat.mul_one, Std.Legacy.Range.forIn_eq_forIn_range']
 have he : (List.range' 0 ([:16] : Std.Legacy.Range).size).all (fun i => xs[i]? == ys[i]?) = (xs == ys) := by
   have hs : List.range' 0 ([:16] : Std.Legacy.Range).size = List.range 16 := by rfl
   rw [hs]
   cases h : (xs == ys) with
   | true =>
     have := eq_of_beq h
     subst this
     simp
   | false =>
     rw [List.all_eq_false]
     refine Classical.byContradiction fun hn => ?_
     have : xs = ys := by
       refine List.ext_getElem? fun i => ?_
       by_cases hi : i < 16
       · refine Classical.byContradiction fun hc => hn ⟨i, by simpa using hi, ?_⟩
         simpa using hc
       · rw [List.getElem?_eq_none (by omega), List.getElem?_eq_none (by omega)]
     rw [this] at h
     simp at h
 have hl := eq_loop xs ys d (List.range' 0 ([:16] : Std.Legacy.Range).size) w (fun i hi => by
   have hs : List.range' 0 ([:16] : Std.Legacy.Range).size = List.range 16 := by rfl
   rw [hs] at hi
   have := List.mem_range.1 hi
   omega)
 rw [hl, he]
 cases (xs == ys) <;> simp [Sem.run_pure]
theorem neqArr (xs ys : List Int) (w : World) (hx : xs.length = 16) (hy : ys.length = 16) : (binOp .neq 98 (.agg (ints xs).toArray) (.agg (ints ys).toArray)).run Try.prog w = .ok (.bool (!(xs == ys))) w := by
 simp [go_sem]
 rw [show (10000 : Nat) = 9998 + 1 + 1 from rfl, eqArr xs ys w 9998 hx hy]
 simp
end Go.Proofs.Ytliaemoomhfcdaa
namespace Go.Proofs.Ytliaemoomhfcdaa
open Go.RowKit
set_option maxHeartbeats 1000000
set_option maxRecDepth 100000
set_option linter.unusedVariables false
set_option linter.unusedSimpArgs false

theorem take_whole {l : List Int} {p : Int → Bool} : l.take (l.findIdx (fun x => !p x)) = l.takeWhile p := by
 induction l with
 | nil => rfl
 | cons x l ih =>
  rw [List.findIdx_cons, List.takeWhile_cons]
  cases hp : p x with
  | true => simp [ih]
  | false => simp
/-- The place of the first number of which something holds, or -1. -/
def idxOf (p : Int → Bool) (xs : List Int) : Int := if xs.findIdx p < xs.length then (xs.findIdx p : Int) else -1
/-- Is a number none of a slot's? -/
def lowNum (x : Int) : Bool := decide (x < 1)
def isBlk (n : Int) : Bool := decide (0 ≤ n) && decide (n < 256)
def noSlot (x : Int) : Bool := decide (x = 0) || !isBlk x

theorem low1_any (x : Int) (w : World) : Calls Try.prog 85 #[.int .i64 x] w fun e w' => e = .returned (.bool (lowNum x)) ∧ w = w' := by
 go_enter Try.func85, Try.ntmps85
 go_wp2
 go_ret
 exact ⟨rfl, rfl⟩
theorem low_any (A : Option Addr) (n c : Nat) (xs : List Int) (w : World) (h : RI w A n xs) (hn : n ≤ 1000000000) :
    Calls Try.prog 84 #[.slice A n c, .func (.func 85) #[] #[]] w fun e w' => e = .returned (.int .i64 (idxOf lowNum xs)) ∧ Below w.heap.size w w' := by
 have HR := Lib.hid h
 clear h
 go_enter Try.func84, Try.ntmps84
 go_wp2
 go_loopw [8] (fun i wr => ∃ k : Nat, k ≤ n ∧ i = .int .i64 k ∧ Hid (∀ j x, j < k → xs[j]? = some x → lowNum x = false) ∧ Below w.heap.size w wr) (fun i _ => n - (intOf i).toNat)
 case atStart => exact ⟨0, by omega, rfl, Lib.hid (fun j x hj => by omega), Below.refl _ _⟩
 case round =>
  obtain ⟨k, hk, rfl, HF, hB⟩ := hrel
  by_cases hlt : k < n
  rotate_left
  · obtain rfl : k = n := by omega
    go_wp2
    go_ret
    refine ⟨?_, hB⟩
    have hf : xs.findIdx lowNum = xs.length := by
      rw [List.findIdx_eq_length]
      intro x hx
      obtain ⟨j, hj, rfl⟩ := List.mem_iff_getElem.1 hx
      have := HF.out j _ (by rw [← HR.out.len]; exact hj) (List.getElem?_eq_getElem hj)
      simpa using this
    show Ending.returned (.int .i64 (-1)) = _
    unfold idxOf
    rw [hf, if_neg (by omega)]
  obtain ⟨ad, x, rfl, hb, hx, hat⟩ := (HR.out.below hB).at_ hlt
  have HX := Lib.hid hx
  clear hx
  go_wp2_with fail
  refine (low1_any x _).mono ?_
  cases hbk : lowNum x with
  | true =>
   rintro e w1 ⟨rfl, rfl⟩
   go_wp2
   go_ret
   refine ⟨?_, hB⟩
   have hlt' : k < xs.length := by rw [HR.out.len]; exact hlt
   have hf : xs.findIdx lowNum = k := by
     have hx2 := HX.out
     rw [List.getElem?_eq_getElem hlt'] at hx2
     injection hx2 with hx2
     rw [List.findIdx_eq hlt']
     refine ⟨by rw [hx2]; exact hbk, fun j hj => ?_⟩
     exact HF.out j _ hj (List.getElem?_eq_getElem (by omega))
   show Ending.returned (.int .i64 (k : Int)) = _
   unfold idxOf
   rw [hf, if_pos hlt']
  | false =>
   rintro e w1 ⟨rfl, rfl⟩
   go_wp2
   refine ⟨⟨k + 1, by omega, by go_num, Lib.hid (fun j y hj hy => ?_), hB⟩, by simp [intOf]; omega⟩
   by_cases hjk : j = k
   · subst hjk
     rw [HX.out] at hy
     injection hy with hy
     rw [← hy]; exact hbk
   exact HF.out j y (by omega) hy

theorem blk_any (x : Int) (w : World) : Calls Try.prog 112 #[.int .i64 x] w fun e w' => e = .returned (.bool (isBlk x)) ∧ w = w' := by
 by_cases h0 : 0 ≤ x
 · go_enter Try.func112, Try.ntmps112
   go_wp2
   go_ret
   refine ⟨?_, rfl⟩
   show Ending.returned (.bool (decide (x < 256))) = _
   unfold isBlk
   rw [decide_eq_true h0, Bool.true_and]
 go_enter Try.func112, Try.ntmps112
 go_wp2
 go_ret
 refine ⟨?_, rfl⟩
 unfold isBlk
 rw [decide_eq_false (by omega), Bool.false_and]
 rfl
theorem bad1_any (x : Int) (w : World) : Calls Try.prog 114 #[.int .i64 x] w fun e w' => e = .returned (.bool (noSlot x)) ∧ w = w' := by
 by_cases h0 : x = 0
 · subst h0
   go_enter Try.func114, Try.ntmps114
   go_wp2
   go_ret
   exact ⟨rfl, rfl⟩
 go_enter Try.func114, Try.ntmps114
 go_wp2_with (go_at_call 112; refine (blk_any _ _).mono ?_; rintro e w1 ⟨rfl, rfl⟩)
 go_ret
 refine ⟨?_, rfl⟩
 show Ending.returned (.bool (x == 0 || !isBlk x)) = _
 unfold noSlot
 rw [show (x == 0) = decide (x = 0) from rfl]
theorem bad_any (A : Option Addr) (n c : Nat) (xs : List Int) (w : World) (h : RI w A n xs) (hn : n ≤ 1000000000) :
    Calls Try.prog 84 #[.slice A n c, .func (.func 114) #[] #[]] w fun e w' => e = .returned (.int .i64 (idxOf noSlot xs)) ∧ Below w.heap.size w w' := by
 have HR := Lib.hid h
 clear h
 go_enter Try.func84, Try.ntmps84
 go_wp2
 go_loopw [8] (fun i wr => ∃ k : Nat, k ≤ n ∧ i = .int .i64 k ∧ Hid (∀ j x, j < k → xs[j]? = some x → noSlot x = false) ∧ Below w.heap.size w wr) (fun i _ => n - (intOf i).toNat)
 case atStart => exact ⟨0, by omega, rfl, Lib.hid (fun j x hj => by omega), Below.refl _ _⟩
 case round =>
  obtain ⟨k, hk, rfl, HF, hB⟩ := hrel
  by_cases hlt : k < n
  rotate_left
  · obtain rfl : k = n := by omega
    go_wp2
    go_ret
    refine ⟨?_, hB⟩
    have hf : xs.findIdx noSlot = xs.length := by
      rw [List.findIdx_eq_length]
      intro x hx
      obtain ⟨j, hj, rfl⟩ := List.mem_iff_getElem.1 hx
      have := HF.out j _ (by rw [← HR.out.len]; exact hj) (List.getElem?_eq_getElem hj)
      simpa using this
    show Ending.returned (.int .i64 (-1)) = _
    unfold idxOf
    rw [hf, if_neg (by omega)]
  obtain ⟨ad, x, rfl, hb, hx, hat⟩ := (HR.out.below hB).at_ hlt
  have HX := Lib.hid hx
  clear hx
  go_wp2_with fail
  refine (bad1_any x _).mono ?_
  cases hbk : noSlot x with
  | true =>
   rintro e w1 ⟨rfl, rfl⟩
   go_wp2
   go_ret
   refine ⟨?_, hB⟩
   have hlt' : k < xs.length := by rw [HR.out.len]; exact hlt
   have hf : xs.findIdx noSlot = k := by
     have hx2 := HX.out
     rw [List.getElem?_eq_getElem hlt'] at hx2
     injection hx2 with hx2
     rw [List.findIdx_eq hlt']
     refine ⟨by rw [hx2]; exact hbk, fun j hj => ?_⟩
     exact HF.out j _ hj (List.getElem?_eq_getElem (by omega))
   show Ending.returned (.int .i64 (k : Int)) = _
   unfold idxOf
   rw [hf, if_pos hlt']
  | false =>
   rintro e w1 ⟨rfl, rfl⟩
   go_wp2
   refine ⟨⟨k + 1, by omega, by go_num, Lib.hid (fun j y hj hy => ?_), hB⟩, by simp [intOf]; omega⟩
   by_cases hjk : j = k
   · subst hjk
     rw [HX.out] at hy
     injection hy with hy
     rw [← hy]; exact hbk
   exact HF.out j y (by omega) hy

/-- May a word be a node's first one? -/
def atNode (b : Int) : Bool := decide (0 ≤ b) && decide (b + 16 ≤ 4096) && decide (b % 16 = 0)
/-- A node's slots, up to the first empty one. -/
def slotsOf (xs : List Int) (b : Nat) : List Int := ((xs.drop (b + 3)).take 13).takeWhile (fun x => decide (1 ≤ x))
theorem not_low (x : Int) : (!lowNum x) = decide (1 ≤ x) := by
 unfold lowNum
 by_cases h : x < 1
 · rw [decide_eq_true h, decide_eq_false (by omega)]; rfl
 rw [decide_eq_false h, decide_eq_true (by omega)]; rfl
theorem slots_take (l : List Int) : (l.take (l.findIdx lowNum)) = l.takeWhile (fun x => decide (1 ≤ x)) := by
 have := take_whole (l := l) (p := fun x => decide (1 ≤ x))
 rw [← this]
 congr 2
 funext x
 rw [← not_low, Bool.not_not]

theorem node0_any (w : World) : Calls Try.prog 83 #[.int .i64 0] w fun e w' => e = .returned (.bool true) ∧ Below w.heap.size w w' := by
 go_enter Try.func83, Try.ntmps83
 go_wp2
 go_ret
 exact ⟨rfl, Below.refl _ _⟩
/-- The slots of the node that the words begin with. -/
theorem slots_any (A : Option Addr) (n c : Nat) (xs : List Int) (w : World) (h : RI w A n xs) (hn : n ≤ 1000000000) (hc : n ≤ c) (h16 : 16 ≤ n) :
    Calls Try.prog 45 #[.slice A n c, .int .i64 0] w fun e w' => ∃ v, e = .returned v ∧ w'.ownsRow w.heap.size 3 1 v (slotsOf xs 0).length (ints (slotsOf xs 0)) ∧ Below w.heap.size w w' := by
 obtain ⟨ad, x0, rfl, _, _, _⟩ := h.at_ (k := 0) (by omega)
 have h1 : RI w (some (ad.add 3)) 13 ((xs.drop 3).take 13) := by
   have := (RI.dropc (c := c) h (k := 3) (by omega) hc (by omega)).take (k := 13) (by omega)
   exact this
 have hlen := h1.len
 have HR := Lib.hid h1
 clear h h1
 have hsl : slotsOf xs 0 = ((xs.drop 3).take 13).takeWhile (fun x => decide (1 ≤ x)) := by unfold slotsOf; rw [Nat.zero_add]
 rw [hsl]
 clear hsl
 generalize (xs.drop 3).take 13 = l at *
 have ht := slots_take l
 have HT := Lib.hid ht
 clear ht
 obtain ⟨q, hq⟩ : ∃ q, q = l.findIdx lowNum := ⟨_, rfl⟩
 have hqle : q ≤ 13 := by rw [hq, ← hlen]; exact List.findIdx_le_length
 have hi : idxOf lowNum l = if q < 13 then (q : Int) else -1 := by unfold idxOf; rw [hlen, ← hq]
 rw [← hq] at HT
 have HQ := Lib.hid hi
 have HLN := Lib.hid hlen
 clear hq hi hlen
 go_enter Try.func45, Try.ntmps45
 by_cases h13 : q < 13
 · go_wp2_with (first
     | (go_at_call 83; refine (node0_any _).mono ?_; rintro e w1 ⟨rfl, hB1⟩)
     | (go_at_call 84; refine (low_any _ _ _ _ _ (HR.out.below hB1) (by omega)).mono ?_; rintro e w2 ⟨rfl, hB2⟩; rw [HQ.out, if_pos h13])
     | (go_at_call 86; refine (clone_any _ _ _ _ _ (((HR.out.below hB1).below hB2).take hqle) (by omega)).mono ?_; rintro e w3 ⟨v, rfl, hown, hB3⟩))
   go_ret
   have hl : (l.take q).length = q := by rw [List.length_take, HLN.out]; omega
   refine ⟨v, rfl, ?_, (hB1.next hB2).next hB3⟩
   rw [← HT.out, hl]
   exact own_lower hown (Nat.le_trans hB1.size hB2.size)
 have hq13 : q = 13 := by omega
 subst hq13
 go_wp2_with (first
   | (go_at_call 83; refine (node0_any _).mono ?_; rintro e w1 ⟨rfl, hB1⟩)
   | (go_at_call 84; refine (low_any _ _ _ _ _ (HR.out.below hB1) (by omega)).mono ?_; rintro e w2 ⟨rfl, hB2⟩; rw [HQ.out, if_neg (by omega)])
   | (go_at_call 86; refine (clone_any _ _ _ _ _ (((HR.out.below hB1).below hB2).take hqle) (by omega)).mono ?_; rintro e w3 ⟨v, rfl, hown, hB3⟩))
 go_ret
 have hl : (l.take 13).length = 13 := by rw [List.length_take, HLN.out]; omega
 refine ⟨v, rfl, ?_, (hB1.next hB2).next hB3⟩
 rw [← HT.out, hl]
 exact own_lower hown (Nat.le_trans hB1.size hB2.size)

theorem contains_any (A : Option Addr) (n c : Nat) (xs : List Int) (w : World) (h : RI w A n xs) (hn : n ≤ 1000000000) :
    Calls Try.prog 113 #[.slice A n c, .func (.func 114) #[] #[]] w fun e w' => e = .returned (.bool (xs.any noSlot)) ∧ Below w.heap.size w w' := by
 have hany : decide (idxOf noSlot xs ≥ 0) = xs.any noSlot := by
   unfold idxOf
   cases ha : xs.any noSlot with
   | true =>
     have : xs.findIdx noSlot < xs.length := List.findIdx_lt_length.2 (List.any_eq_true.1 ha)
     rw [if_pos this]; simp
   | false =>
     have : ¬ xs.findIdx noSlot < xs.length := by
       rw [List.findIdx_lt_length]
       intro ⟨x, hx, hp⟩
       have := List.any_eq_false.1 ha x hx
       exact this hp
     rw [if_neg this]; simp
 have HA := Lib.hid hany
 clear hany
 go_enter Try.func113, Try.ntmps113
 go_wp2_with (go_at_call 84; refine (bad_any _ _ _ _ _ h hn).mono ?_; rintro e w2 ⟨rfl, hB2⟩)
 go_ret
 refine ⟨?_, hB2⟩
 show Ending.returned (.bool (decide (idxOf noSlot xs ≥ 0))) = _
 rw [HA.out]
/-- May a node be? -/
def nodeOk (lv tu ne lo : Int) (sl : List Int) : Bool :=
  decide (0 ≤ lv) && decide (lv ≤ 9) && decide (0 ≤ tu) && decide (tu ≤ 1099511627776) && isBlk ne && isBlk lo && decide (sl.length ≤ 13) && !(sl.any noSlot)
theorem checkNode_any (lv tu ne lo : Int) (A : Option Addr) (n c : Nat) (xs : List Int) (w : World) (h : RI w A n xs) (hn : n ≤ 1000000000) :
    Calls Try.prog 87 #[.agg #[.int .i64 lv, .int .i64 tu, .int .i64 ne, .int .i64 lo, .slice A n c]] w fun e w' => e = .returned (.bool (nodeOk lv tu ne lo xs)) ∧ Below w.heap.size w w' := by
 have hlen := h.len
 obtain ⟨r, hr⟩ : ∃ r, r = nodeOk lv tu ne lo xs := ⟨_, rfl⟩
 rw [← hr]
 have HNR := Lib.hid hr
 clear hr
 have HI := Lib.hid h
 have HL := Lib.hid hlen
 clear h hlen
 have hB0 : ∀ o, Below w.heap.size w (w.alloc o) := fun o => (Below.refl _ _).alloc (Nat.le_refl _) _
 by_cases h1 : lv < 0
 · go_enter Try.func87, Try.ntmps87
   go_wp2
   go_ret
   refine ⟨?_, hB0 _⟩
   show Ending.returned (.bool false) = _
   rw [HNR.out]; unfold nodeOk; simp [show ¬ 0 ≤ lv from by omega]; try omega
 by_cases h2 : 9 < lv
 · go_enter Try.func87, Try.ntmps87
   go_wp2
   go_ret
   refine ⟨?_, hB0 _⟩
   show Ending.returned (.bool false) = _
   rw [HNR.out]; unfold nodeOk; simp [show ¬ lv ≤ 9 from by omega]; try omega
 by_cases h3 : tu < 0
 · go_enter Try.func87, Try.ntmps87
   go_wp2
   go_ret
   refine ⟨?_, hB0 _⟩
   show Ending.returned (.bool false) = _
   rw [HNR.out]; unfold nodeOk; simp [show ¬ 0 ≤ tu from by omega]; try omega
 by_cases h4 : 1099511627776 < tu
 · go_enter Try.func87, Try.ntmps87
   go_wp2
   go_ret
   refine ⟨?_, hB0 _⟩
   show Ending.returned (.bool false) = _
   rw [HNR.out]; unfold nodeOk; simp [show ¬ tu ≤ 1099511627776 from by omega]; try omega
 cases hne : isBlk ne
 · go_enter Try.func87, Try.ntmps87
   go_wp2_with (first | (go_at_call 112; refine (blk_any _ _).mono ?_; rintro e w1 ⟨rfl, rfl⟩; rw [hne]))
   go_ret
   refine ⟨?_, hB0 _⟩
   show Ending.returned (.bool false) = _
   rw [HNR.out]; unfold nodeOk; simp [hne]; try omega
 cases hlo : isBlk lo
 · go_enter Try.func87, Try.ntmps87
   go_wp2_with (first | (go_at_call 112; refine (blk_any _ _).mono ?_; rintro e w1 ⟨rfl, rfl⟩; first | rw [hne] | rw [hlo]))
   go_ret
   refine ⟨?_, hB0 _⟩
   show Ending.returned (.bool false) = _
   rw [HNR.out]; unfold nodeOk; simp [hne, hlo]; try omega
 by_cases h7 : 13 < n
 · go_enter Try.func87, Try.ntmps87
   go_wp2_with (first | (go_at_call 112; refine (blk_any _ _).mono ?_; rintro e w1 ⟨rfl, rfl⟩; first | rw [hne] | rw [hlo]))
   go_ret
   refine ⟨?_, hB0 _⟩
   show Ending.returned (.bool false) = _
   rw [HNR.out]; unfold nodeOk; simp [hne, hlo, show ¬ xs.length ≤ 13 from by have := HL.out; omega]; try omega
 go_enter Try.func87, Try.ntmps87
 go_wp2_with (first | (go_at_call 112; refine (blk_any _ _).mono ?_; rintro e w1 ⟨rfl, rfl⟩; first | rw [hne] | rw [hlo]) | (go_at_call 113; refine (contains_any A n c xs _ (HI.out.below (hB0 _)) hn).mono ?_; rintro e w2 ⟨rfl, hB2⟩))
 go_ret
 refine ⟨?_, ((Below.refl _ _).alloc (Nat.le_refl _) _).next hB2⟩
 show Ending.returned (.bool (!xs.any noSlot)) = _
 rw [HNR.out]; unfold nodeOk
 have := HL.out
 rw [decide_eq_true (show 0 ≤ lv by omega), decide_eq_true (show lv ≤ 9 by omega), decide_eq_true (show 0 ≤ tu by omega), decide_eq_true (show tu ≤ 1099511627776 by omega), hne, hlo, decide_eq_true (show xs.length ≤ 13 by omega)]
 rfl
end Go.Proofs.Ytliaemoomhfcdaa
namespace Go.Proofs.Ytliaemoomhfcdaa
open Go.RowKit
set_option maxHeartbeats 2000000
set_option maxRecDepth 100000
set_option linter.unusedVariables false
set_option linter.unusedSimpArgs false

/-- A node's first word. -/
def firstOf (lv tu : Int) : Int := bits .or .i64 (bits .or .i64 1152921504606846976 (wrap64 (tu * 16))) lv
theorem first_any (lv tu ne lo : Int) (v : Value) (w : World) :
    Calls Try.prog 88 #[.agg #[.int .i64 lv, .int .i64 tu, .int .i64 ne, .int .i64 lo, v]] w fun e w' => e = .returned (.int .i64 (firstOf lv tu)) ∧ w' = w.alloc (.cells #[.int .i64 lv, .int .i64 tu, .int .i64 ne, .int .i64 lo, v] 24) := by
 go_enter Try.func88, Try.ntmps88
 go_wp2
 go_ret
 exact ⟨rfl, rfl⟩
def nodeWords (lv tu ne lo : Int) (sl : List Int) : List Int := [firstOf lv tu, ne, lo] ++ sl ++ List.replicate (13 - sl.length) 0
/-- What is told: a row of the call's own, and a number. -/
def OwnTwo (w : World) (l : List Int) (r : Int) (e : Ending) (w' : World) : Prop :=
  ∃ v, e = .returned (.tuple #[v, .int .i64 r]) ∧ w'.ownsRow w.heap.size 3 1 v l.length (ints l) ∧ Below w.heap.size w w'
theorem nodeWords_bad (lv tu ne lo : Int) (A : Option Addr) (n c : Nat) (xs : List Int) (w : World) (h : RI w A n xs) (hn : n ≤ 1000000000) (hbad : nodeOk lv tu ne lo xs = false) :
    Calls Try.prog 46 #[.agg #[.int .i64 lv, .int .i64 tu, .int .i64 ne, .int .i64 lo, .slice A n c]] w (OwnTwo w [] 90) := by
 have HI := Lib.hid h
 clear h
 have hB0 : ∀ o, Below w.heap.size w (w.alloc o) := fun o => (Below.refl _ _).alloc (Nat.le_refl _) _
 go_enter Try.func46, Try.ntmps46
 go_wp2_with (go_at_call 87; refine (checkNode_any lv tu ne lo A n c xs _ (HI.out.below (hB0 _)) hn).mono ?_; rintro e w2 ⟨rfl, hB2⟩; rw [hbad])
 go_ret2
 exact ⟨_, rfl, ⟨rfl, .inl ⟨rfl, rfl⟩⟩, (hB0 _).next hB2⟩
theorem made16 : madeCells #[.int .i64 0] 16 = #[.int .i64 0, .int .i64 0, .int .i64 0, .int .i64 0, .int .i64 0, .int .i64 0, .int .i64 0, .int .i64 0, .int .i64 0, .int .i64 0, .int .i64 0, .int .i64 0, .int .i64 0, .int .i64 0, .int .i64 0, .int .i64 0] := by kernel_rfl
theorem nodeWords_any (lv tu ne lo : Int) (A : Option Addr) (n c : Nat) (xs : List Int) (w : World) (h : RI w A n xs) (hn : n ≤ 1000000000) (hok : nodeOk lv tu ne lo xs = true) :
    Calls Try.prog 46 #[.agg #[.int .i64 lv, .int .i64 tu, .int .i64 ne, .int .i64 lo, .slice A n c]] w (OwnTwo w (nodeWords lv tu ne lo xs) 0) := by
 have HI := Lib.hid h
 clear h
 have hB0 : ∀ o, Below w.heap.size w (w.alloc o) := fun o => (Below.refl _ _).alloc (Nat.le_refl _) _
 have hmk : ∀ w, (Instr.makeSlice 22 (.int .i64 16) (.int .i64 16)).run Try.prog w = .ok (.slice (some ⟨w.heap.size, 0, none⟩) 16 16) (w.alloc (.cells #[.int .i64 0, .int .i64 0, .int .i64 0, .int .i64 0, .int .i64 0, .int .i64 0, .int .i64 0, .int .i64 0, .int .i64 0, .int .i64 0, .int .i64 0, .int .i64 0, .int .i64 0, .int .i64 0, .int .i64 0, .int .i64 0] 3)) := fun w => by rw [← made16]; exact run_make_row' (P := Try.prog) 22 3 (.int .i64 0) 8 Try.underlying22 int_info rfl .i64 .i64 16 (by omega) (by omega) w
 go_enter Try.func46, Try.ntmps46
 go_wp2_with (go_at_call 87; refine (checkNode_any lv tu ne lo A n c xs _ (HI.out.below (hB0 _)) hn).mono ?_; rintro e w2 ⟨rfl, hB2⟩; rw [hok])
 have hc2 : ∀ j : Nat, j < 5 → ∀ o, (w2.alloc o).cell? ⟨w.heap.size, j, none⟩ = (w.alloc (.cells #[.int .i64 lv, .int .i64 tu, .int .i64 ne, .int .i64 lo, .slice A n c] 24)).cell? ⟨w.heap.size, j, none⟩ := by
   intro j hj o
   have hB3 := (hB2.alloc hB2.size o).cell (p := ⟨w.heap.size, j, none⟩) (by simp)
   exact hB3
 have d0 : ∀ o, (w2.alloc o).cell? ⟨w.heap.size, 0, none⟩ = some (.int .i64 lv) := fun o => (hc2 0 (by omega) o).trans (by rw [cell_of_row _ _ _ _ _ _ (heap_alloc_new _ _)]; rfl)
 have d1 : ∀ o, (w2.alloc o).cell? ⟨w.heap.size, 1, none⟩ = some (.int .i64 tu) := fun o => (hc2 1 (by omega) o).trans (by rw [cell_of_row _ _ _ _ _ _ (heap_alloc_new _ _)]; rfl)
 have d2 : ∀ o, (w2.alloc o).cell? ⟨w.heap.size, 2, none⟩ = some (.int .i64 ne) := fun o => (hc2 2 (by omega) o).trans (by rw [cell_of_row _ _ _ _ _ _ (heap_alloc_new _ _)]; rfl)
 have d3 : ∀ o, (w2.alloc o).cell? ⟨w.heap.size, 3, none⟩ = some (.int .i64 lo) := fun o => (hc2 3 (by omega) o).trans (by rw [cell_of_row _ _ _ _ _ _ (heap_alloc_new _ _)]; rfl)
 have d4 : ∀ o, (w2.alloc o).cell? ⟨w.heap.size, 4, none⟩ = some (.slice A n c) := fun o => (hc2 4 (by omega) o).trans (by rw [cell_of_row _ _ _ _ _ _ (heap_alloc_new _ _)]; rfl)
 have hc3 : ∀ j : Nat, j < 5 → ∀ o o', ((w2.alloc o).alloc o').cell? ⟨w.heap.size, j, none⟩ = (w.alloc (.cells #[.int .i64 lv, .int .i64 tu, .int .i64 ne, .int .i64 lo, .slice A n c] 24)).cell? ⟨w.heap.size, j, none⟩ := by
   intro j hj o o'
   exact ((hB2.alloc hB2.size o).alloc (hB2.alloc hB2.size o).size o').cell (p := ⟨w.heap.size, j, none⟩) (by simp)
 have e0 : ∀ o o', ((w2.alloc o).alloc o').cell? ⟨w.heap.size, 0, none⟩ = some (.int .i64 lv) := fun o o' => (hc3 0 (by omega) o o').trans (by rw [cell_of_row _ _ _ _ _ _ (heap_alloc_new _ _)]; rfl)
 have e1 : ∀ o o', ((w2.alloc o).alloc o').cell? ⟨w.heap.size, 1, none⟩ = some (.int .i64 tu) := fun o o' => (hc3 1 (by omega) o o').trans (by rw [cell_of_row _ _ _ _ _ _ (heap_alloc_new _ _)]; rfl)
 have e2 : ∀ o o', ((w2.alloc o).alloc o').cell? ⟨w.heap.size, 2, none⟩ = some (.int .i64 ne) := fun o o' => (hc3 2 (by omega) o o').trans (by rw [cell_of_row _ _ _ _ _ _ (heap_alloc_new _ _)]; rfl)
 have e3 : ∀ o o', ((w2.alloc o).alloc o').cell? ⟨w.heap.size, 3, none⟩ = some (.int .i64 lo) := fun o o' => (hc3 3 (by omega) o o').trans (by rw [cell_of_row _ _ _ _ _ _ (heap_alloc_new _ _)]; rfl)
 have e4 : ∀ o o', ((w2.alloc o).alloc o').cell? ⟨w.heap.size, 4, none⟩ = some (.slice A n c) := fun o o' => (hc3 4 (by omega) o o').trans (by rw [cell_of_row _ _ _ _ _ _ (heap_alloc_new _ _)]; rfl)
 clear hc2 hc3 hmk hB0
 have hsz : w.heap.size < w2.heap.size := Nat.lt_of_lt_of_le (by simp) hB2.size
 have HS := Lib.hid hsz
 have HB := Lib.hid hB2
 clear hsz hB2
 have f1 : ((w2.alloc (Obj.cells #[Value.int .i64 (firstOf lv tu), Value.int .i64 ne, Value.int .i64 lo, Value.int .i64 0, Value.int .i64 0, Value.int .i64 0, Value.int .i64 0, Value.int .i64 0, Value.int .i64 0, Value.int .i64 0, Value.int .i64 0, Value.int .i64 0, Value.int .i64 0, Value.int .i64 0, Value.int .i64 0, Value.int .i64 0] 3)).alloc (Obj.cells #[Value.int .i64 lv, Value.int .i64 tu, Value.int .i64 ne, Value.int .i64 lo, Value.slice A n c] 24)).drew.heap[w2.heap.size]? = some (.cells (([Value.int .i64 (firstOf lv tu), Value.int .i64 ne, Value.int .i64 lo] ++ List.replicate 13 (Value.int .i64 0)).toArray) 3 (0, 0)) :=
   (Below.heap_alloc (w2.alloc (Obj.cells #[Value.int .i64 (firstOf lv tu), Value.int .i64 ne, Value.int .i64 lo, Value.int .i64 0, Value.int .i64 0, Value.int .i64 0, Value.int .i64 0, Value.int .i64 0, Value.int .i64 0, Value.int .i64 0, Value.int .i64 0, Value.int .i64 0, Value.int .i64 0, Value.int .i64 0, Value.int .i64 0, Value.int .i64 0] 3)) _ w2.heap.size (by simp)).trans (heap_alloc_new _ _)
 have f3 : Below w.heap.size w ((w2.alloc (Obj.cells #[Value.int .i64 (firstOf lv tu), Value.int .i64 ne, Value.int .i64 lo, Value.int .i64 0, Value.int .i64 0, Value.int .i64 0, Value.int .i64 0, Value.int .i64 0, Value.int .i64 0, Value.int .i64 0, Value.int .i64 0, Value.int .i64 0, Value.int .i64 0, Value.int .i64 0, Value.int .i64 0, Value.int .i64 0] 3)).alloc (Obj.cells #[Value.int .i64 lv, Value.int .i64 tu, Value.int .i64 ne, Value.int .i64 lo, Value.slice A n c] 24)).drew :=
   ((((Below.refl _ _).alloc (Nat.le_refl _) _).next HB.out).alloc (Nat.le_of_lt HS.out) _ |>.alloc (by simp; have := HS.out; omega) _).drew
 have F1 := Lib.hid f1
 have F3 := Lib.hid f3
 clear f1 f3
 go_cut [] (fun wc => Hid (wc.heap[w2.heap.size]? = some (.cells (([Value.int .i64 (firstOf lv tu), Value.int .i64 ne, Value.int .i64 lo] ++ List.replicate 13 (Value.int .i64 0)).toArray) 3 (0, 0))) ∧ wc.cell? ⟨w.heap.size, 4, none⟩ = some (.slice A n c) ∧ Hid (Below w.heap.size w wc))
 case first =>
  go_region_with (first | (go_at_call 88; refine (first_any lv tu ne lo (.slice A n c) _).mono ?_; rintro e w3 ⟨rfl, rfl⟩))
  all_goals (go_wp2_with fail; go_meet; exact ⟨F1, e4 _ _, F3⟩)
 case rest =>
  obtain ⟨HR, hc4, HBC⟩ := hcut
  obtain ⟨W3, rfl⟩ : ∃ W3 : World, W3 = wc := ⟨_, rfl⟩
  have hlen := HI.out.len
  have hle : xs.length ≤ 13 := by
    unfold nodeOk at hok
    simp only [Bool.and_eq_true, decide_eq_true_eq] at hok
    exact hok.1.2
  have hread : 0 < n → ∃ ad, A = some ad ∧ ∀ j v, (ints xs)[j]? = some v → W3.cell? (ad.add j) = some v := by
    intro h0
    obtain ⟨ad, e, _, hc⟩ := (HI.out.below HBC.out).2 h0
    exact ⟨ad, e, fun j v hj => by have := hc j v hj; exact this⟩
  have HRD := Lib.hid hread
  have HLE := Lib.hid hle
  have HLN := Lib.hid hlen
  clear hread hle hlen hok
  go_upto_region 5 with fail
  go_region_law (refine step_copy_splice rfl (.tmp 22) (.tmp 24) 22 22 rfl 3 Try.underlying22 (by kernel_rfl) _ _ _ _ _ _ rfl rfl w2.heap.size 3 ([Value.int .i64 (firstOf lv tu), Value.int .i64 ne, Value.int .i64 lo] ++ List.replicate 13 (Value.int .i64 0)) 3 HR.out (ints xs) (by have h1 := HLN.out; have h2 := HLE.out; rw [List.length_map]; exact h1.trans (Nat.min_eq_left (by omega)).symm) (fun h0 => ⟨rfl, HRD.out (by have := HLN.out; simp at h0; omega)⟩) (by have := HLE.out; simp; omega) (ints_one xs) w.heap.size w HBC.out.drew (Nat.le_of_lt HS.out) ?_; intro w4 HG4 hB4)
  go_wp2
  go_ret2
  have h1 := HLN.out
  have h2 := HLE.out
  have hl : (nodeWords lv tu ne lo xs).length = 16 := by unfold nodeWords; simp; omega
  have he : splice ([Value.int .i64 (firstOf lv tu), Value.int .i64 ne, Value.int .i64 lo] ++ List.replicate 13 (Value.int .i64 0)) 3 (ints xs) = ints (nodeWords lv tu ne lo xs) := by
    have hd : (List.replicate 13 (Value.int .i64 0)).drop (ints xs).length = List.replicate (13 - xs.length) (Value.int .i64 0) := by rw [List.drop_replicate, List.length_map]
    unfold splice nodeWords
    rw [← List.drop_drop]
    generalize hR : List.replicate 13 (Value.int .i64 0) = R at hd ⊢
    show [Value.int .i64 (firstOf lv tu), Value.int .i64 ne, Value.int .i64 lo] ++ (ints xs ++ R.drop (ints xs).length) = _
    rw [hd]
    simp
  have hg := HG4.out
  rw [he] at hg
  refine ⟨_, rfl, ?_, hB4⟩
  rw [hl]
  exact ⟨by simp [hl], .inr ⟨w2.heap.size, 16, _, rfl, Nat.le_of_lt HS.out, hg, Nat.le_refl _, by simp [maxLen], by simp [hl], by simpa using List.take_of_length_le (by simp [hl])⟩⟩
end Go.Proofs.Ytliaemoomhfcdaa
namespace Go.Proofs.Ytliaemoomhfcdaa.RC
open Go.RowKit Go.Proofs.YtliaemoomhfcdaaW.PrintWords Go.Proofs.YtliaemoomhfcdaaW.PrintLast Go.Proofs.YtliaemoomhfcdaaW.PrintMore
attribute [local go_sem] max2_int min2_int max_two min_two max_three min_three max_four min_four   -- for this text's walks alone
set_option linter.unusedVariables false
set_option linter.unusedSimpArgs false
noncomputable section



def errW : Option Int → Value
  | none => .nilIface
  | some c => .iface 0 (.int .i64 c)
theorem errW_none : errW none = .nilIface := rfl
theorem errW_some (c : Int) : errW (some c) = .iface 0 (.int .i64 c) := rfl

-- the values' own types

end
end Go.Proofs.Ytliaemoomhfcdaa.RC
namespace Go.Proofs.Ytliaemoomhfcdaa.RC
open Go.RowKit Go.Proofs.YtliaemoomhfcdaaW.PrintWords Go.Proofs.YtliaemoomhfcdaaW.PrintLast Go.Proofs.YtliaemoomhfcdaaW.PrintMore
attribute [local go_sem] max2_int min2_int max_two min_two max_three min_three max_four min_four   -- for this text's walks alone
set_option linter.unusedVariables false
set_option linter.unusedSimpArgs false
noncomputable section

/-! ### key_Check: function 101 -/
def key_Check.f (a0 : ByteArray) : Option (Bool) := if a0.toList = ([] : List UInt8) then (some false) else (some (decide ((a0.size : Int) ≤ 21)))
set_option maxHeartbeats 8000000 in
set_option maxRecDepth 100000 in
theorem key_Check.calls (a0 : ByteArray) (r : Bool) (w : World) (h : key_Check.f a0 = some r) :
    Calls Try.prog 101 #[.string a0] w fun e w' => e = .returned (.bool r) ∧ Drawn0 w w' := by
 have H : (if a0.toList = ([] : List UInt8) then (some false) else (some (decide ((a0.size : Int) ≤ 21)))) = some r := h
 clear h
 by_cases c2 : a0.toList = ([] : List UInt8)
 · rw [if_pos c2] at H
   have c2b0 : (a0.toList == ([] : List UInt8)) = true := beq_iff_eq.mpr c2
   have c2b1 : (a0.toList != ([] : List UInt8)) = false := bne_eq_false_iff_eq.mpr c2
   clear c2
   obtain rfl := Option.some.inj H
   go_enter Try.func101, Try.ntmps101
   go_wp2
   go_ret
   exact ⟨by first | rfl | (simp; done) | (simp [*]; done), by repeat (first | exact Drawn0.refl _ | apply Drawn0.step)⟩
 rw [if_neg c2] at H
 have c2b0 : (a0.toList == ([] : List UInt8)) = false := beq_eq_false_iff_ne.mpr c2
 have c2b1 : (a0.toList != ([] : List UInt8)) = true := bne_iff_ne.mpr c2
 obtain rfl := Option.some.inj H
 go_enter Try.func101, Try.ntmps101
 go_wp2
 go_ret
 exact ⟨by first | rfl | (simp; done) | (simp [*]; done), by repeat (first | exact Drawn0.refl _ | apply Drawn0.step)⟩

/-! ### key_CheckVal: function 102 -/
def key_CheckVal.f (a0 : ByteArray) : Option (Bool) := some (decide ((a0.size : Int) ≤ 21))
set_option maxHeartbeats 8000000 in
set_option maxRecDepth 100000 in
theorem key_CheckVal.calls (a0 : ByteArray) (r : Bool) (w : World) (h : key_CheckVal.f a0 = some r) :
    Calls Try.prog 102 #[.string a0] w fun e w' => e = .returned (.bool r) ∧ Drawn0 w w' := by
 have H : (some (decide ((a0.size : Int) ≤ 21))) = some r := h
 clear h
 obtain rfl := Option.some.inj H
 go_enter Try.func102, Try.ntmps102
 go_wp2
 go_ret
 exact ⟨by first | rfl | (simp; done) | (simp [*]; done), by repeat (first | exact Drawn0.refl _ | apply Drawn0.step)⟩

/-! ### rec_Check: function 75 -/
def rec_Check.f (a0_0 : Int) (a0_1 : ByteArray) (a0_2 : ByteArray) (a0_3 : Int) : Option (Bool) := if a0_0 = 1 then ((key_Check.f a0_1).bind fun t102 => (if t102 = true then ((key_CheckVal.f a0_2).bind fun t103 => (if t103 = true then (some (a0_3 == 0)) else (some false))) else (some false))) else (if a0_0 = 2 then (if a0_1.toList = ([] : List UInt8) then (if a0_2.toList = ([] : List UInt8) then (if a0_3 > 0 then (some (decide (a0_3 < 256))) else (some false)) else (some false)) else ((key_Check.f a0_1).bind fun t104 => (if t104 = true then (if a0_2.toList = ([] : List UInt8) then (if a0_3 > 0 then (some (decide (a0_3 < 256))) else (some false)) else (some false)) else (some false)))) else (some false))
set_option maxHeartbeats 8000000 in
set_option maxRecDepth 100000 in
theorem rec_Check.calls (a0_0 : Int) (a0_1 : ByteArray) (a0_2 : ByteArray) (a0_3 : Int) (r : Bool) (w : World) (h : rec_Check.f a0_0 a0_1 a0_2 a0_3 = some r) :
    Calls Try.prog 75 #[.agg #[.int .i64 a0_0, .string a0_1, .string a0_2, .int .i64 a0_3]] w fun e w' => e = .returned (.bool r) ∧ Below w.heap.size w w' := by
 have hu62 := Try.underlying62
 have HB := Aside0.mk (Below.refl w.heap.size w)
 have H : (if a0_0 = 1 then ((key_Check.f a0_1).bind fun t102 => (if t102 = true then ((key_CheckVal.f a0_2).bind fun t103 => (if t103 = true then (some (a0_3 == 0)) else (some false))) else (some false))) else (if a0_0 = 2 then (if a0_1.toList = ([] : List UInt8) then (if a0_2.toList = ([] : List UInt8) then (if a0_3 > 0 then (some (decide (a0_3 < 256))) else (some false)) else (some false)) else ((key_Check.f a0_1).bind fun t104 => (if t104 = true then (if a0_2.toList = ([] : List UInt8) then (if a0_3 > 0 then (some (decide (a0_3 < 256))) else (some false)) else (some false)) else (some false)))) else (some false))) = some r := h
 clear h
 by_cases c2 : a0_0 = 1
 · rw [if_pos c2] at H
   have c2b0 : (a0_0 == 1) = true := beq_iff_eq.mpr c2
   have c2b1 : (a0_0 != 1) = false := bne_eq_false_iff_eq.mpr c2
   clear c2
   replace H := Option.bind_eq_some_iff.mp H
   obtain ⟨t102, A30, H⟩ := H
   replace H : (if t102 = true then ((key_CheckVal.f a0_2).bind fun t103 => (if t103 = true then (some (a0_3 == 0)) else (some false))) else (some false)) = some r := H
   have A3 := Aside0.mk A30
   clear A30
   by_cases c4 : t102 = true
   rotate_left
   · replace c4 := Bool.eq_false_iff.mpr c4
     subst c4
     have H1 : (some false) = some r := by rw [if_neg (show ¬ (false = true) by decide)] at H; exact H
     clear H
     have H := H1
     clear H1
     obtain rfl := Option.some.inj H
     go_enter Try.func75, Try.ntmps75
     go_wp2_with (first | ((with_reducible refine gate_dst (N := 1) rfl ?_); refine box_event ?hg (N := 1) ?hd (cs := #[.int .i64 a0_0, .string a0_1, .string a0_2, .int .i64 a0_3]) (t := 62) ?hr ?_; (case hd => rfl); (case hg => rfl); (case hr => first | (go_simp; done) | (go_simp; rfl)); intro gb101 hg w11 hbox hb; have n0_ := Aside0.mk (below_step qh_ hb); have n1_ := Aside0.mk (hbox); have n2_ := Aside0.mk ((by rw [hg]; exact (below_size qh_) : w.heap.size ≤ gb101)); have n3_ := Aside0.mk ((by rw [hg]; exact (below_size qh_) : w.heap.size ≤ gb101)); clear HB; have HB := n0_; have BK101 := n1_; have GW101 := n2_; have GE101 := n3_; clear n0_ n1_ n2_ n3_; clear hb hbox hg; have hcz12_0 : w11.cell? ⟨gb101, 0, none⟩ = some (.int .i64 a0_0) := (blk_cell BK101.out 0).trans rfl; have hcz12_1 : w11.cell? ⟨gb101, 1, none⟩ = some (.string a0_1) := (blk_cell BK101.out 1).trans rfl; have hcz12_2 : w11.cell? ⟨gb101, 2, none⟩ = some (.string a0_2) := (blk_cell BK101.out 2).trans rfl; have hcz12_3 : w11.cell? ⟨gb101, 3, none⟩ = some (.int .i64 a0_3) := (blk_cell BK101.out 3).trans rfl; have hfz12_0 := blk_frozen BK101.out 0; have hfz12_1 := blk_frozen BK101.out 1; have hfz12_2 := blk_frozen BK101.out 2; have hfz12_3 := blk_frozen BK101.out 3) | ((with_reducible refine gate_callee (f := 101) rfl ?_); refine goesL_ (some 9) rfl rfl Try.func101 (by kernel_rfl) rfl #[.string a0_1] rfl qm_ ?_; (with_reducible refine (key_Check.calls a0_1 false _ A3.out).mono ?_); rintro e w' ⟨rfl, ⟨nd, rfl⟩⟩; refine ⟨_, rfl, ?_⟩))
     go_ret
     exact ⟨qe_, by repeat (first | (with_reducible first | exact HB.out | apply below_alloc | apply pw_below_drewN | apply below_drew1 | refine below_set ?_ GE101.out) | exact HB.out)⟩
   subst c4
   have H1 : ((key_CheckVal.f a0_2).bind fun t103 => (if t103 = true then (some (a0_3 == 0)) else (some false))) = some r := by rw [if_pos rfl] at H; exact H
   clear H
   have H := H1
   clear H1
   replace H := Option.bind_eq_some_iff.mp H
   obtain ⟨t103, A50, H⟩ := H
   replace H : (if t103 = true then (some (a0_3 == 0)) else (some false)) = some r := H
   have A5 := Aside0.mk A50
   clear A50
   by_cases c6 : t103 = true
   · subst c6
     have H1 : (some (a0_3 == 0)) = some r := by rw [if_pos rfl] at H; exact H
     clear H
     have H := H1
     clear H1
     obtain rfl := Option.some.inj H
     go_enter Try.func75, Try.ntmps75
     go_wp2_with (first | ((with_reducible refine gate_dst (N := 1) rfl ?_); refine box_event ?hg (N := 1) ?hd (cs := #[.int .i64 a0_0, .string a0_1, .string a0_2, .int .i64 a0_3]) (t := 62) ?hr ?_; (case hd => rfl); (case hg => rfl); (case hr => first | (go_simp; done) | (go_simp; rfl)); intro gb101 hg w7 hbox hb; have n0_ := Aside0.mk (below_step qh_ hb); have n1_ := Aside0.mk (hbox); have n2_ := Aside0.mk ((by rw [hg]; exact (below_size qh_) : w.heap.size ≤ gb101)); have n3_ := Aside0.mk ((by rw [hg]; exact (below_size qh_) : w.heap.size ≤ gb101)); clear HB; have HB := n0_; have BK101 := n1_; have GW101 := n2_; have GE101 := n3_; clear n0_ n1_ n2_ n3_; clear hb hbox hg; have hcz8_0 : w7.cell? ⟨gb101, 0, none⟩ = some (.int .i64 a0_0) := (blk_cell BK101.out 0).trans rfl; have hcz8_1 : w7.cell? ⟨gb101, 1, none⟩ = some (.string a0_1) := (blk_cell BK101.out 1).trans rfl; have hcz8_2 : w7.cell? ⟨gb101, 2, none⟩ = some (.string a0_2) := (blk_cell BK101.out 2).trans rfl; have hcz8_3 : w7.cell? ⟨gb101, 3, none⟩ = some (.int .i64 a0_3) := (blk_cell BK101.out 3).trans rfl; have hfz8_0 := blk_frozen BK101.out 0; have hfz8_1 := blk_frozen BK101.out 1; have hfz8_2 := blk_frozen BK101.out 2; have hfz8_3 := blk_frozen BK101.out 3) | ((with_reducible refine gate_callee (f := 101) rfl ?_); refine goesL_ (some 9) rfl rfl Try.func101 (by kernel_rfl) rfl #[.string a0_1] rfl qm_ ?_; (with_reducible refine (key_Check.calls a0_1 true _ A3.out).mono ?_); rintro e w' ⟨rfl, ⟨nd, rfl⟩⟩; refine ⟨_, rfl, ?_⟩) | (go_at_call 102; (with_reducible refine (key_CheckVal.calls a0_2 true _ A5.out).mono ?_); rintro e w' ⟨rfl, ⟨nd, rfl⟩⟩))
     go_ret
     exact ⟨qe_, by repeat (first | (with_reducible first | exact HB.out | apply below_alloc | apply pw_below_drewN | apply below_drew1 | refine below_set ?_ GE101.out) | exact HB.out)⟩
   replace c6 := Bool.eq_false_iff.mpr c6
   subst c6
   have H1 : (some false) = some r := by rw [if_neg (show ¬ (false = true) by decide)] at H; exact H
   clear H
   have H := H1
   clear H1
   obtain rfl := Option.some.inj H
   go_enter Try.func75, Try.ntmps75
   go_wp2_with (first | ((with_reducible refine gate_dst (N := 1) rfl ?_); refine box_event ?hg (N := 1) ?hd (cs := #[.int .i64 a0_0, .string a0_1, .string a0_2, .int .i64 a0_3]) (t := 62) ?hr ?_; (case hd => rfl); (case hg => rfl); (case hr => first | (go_simp; done) | (go_simp; rfl)); intro gb101 hg w9 hbox hb; have n0_ := Aside0.mk (below_step qh_ hb); have n1_ := Aside0.mk (hbox); have n2_ := Aside0.mk ((by rw [hg]; exact (below_size qh_) : w.heap.size ≤ gb101)); have n3_ := Aside0.mk ((by rw [hg]; exact (below_size qh_) : w.heap.size ≤ gb101)); clear HB; have HB := n0_; have BK101 := n1_; have GW101 := n2_; have GE101 := n3_; clear n0_ n1_ n2_ n3_; clear hb hbox hg; have hcz10_0 : w9.cell? ⟨gb101, 0, none⟩ = some (.int .i64 a0_0) := (blk_cell BK101.out 0).trans rfl; have hcz10_1 : w9.cell? ⟨gb101, 1, none⟩ = some (.string a0_1) := (blk_cell BK101.out 1).trans rfl; have hcz10_2 : w9.cell? ⟨gb101, 2, none⟩ = some (.string a0_2) := (blk_cell BK101.out 2).trans rfl; have hcz10_3 : w9.cell? ⟨gb101, 3, none⟩ = some (.int .i64 a0_3) := (blk_cell BK101.out 3).trans rfl; have hfz10_0 := blk_frozen BK101.out 0; have hfz10_1 := blk_frozen BK101.out 1; have hfz10_2 := blk_frozen BK101.out 2; have hfz10_3 := blk_frozen BK101.out 3) | ((with_reducible refine gate_callee (f := 101) rfl ?_); refine goesL_ (some 9) rfl rfl Try.func101 (by kernel_rfl) rfl #[.string a0_1] rfl qm_ ?_; (with_reducible refine (key_Check.calls a0_1 true _ A3.out).mono ?_); rintro e w' ⟨rfl, ⟨nd, rfl⟩⟩; refine ⟨_, rfl, ?_⟩) | (go_at_call 102; (with_reducible refine (key_CheckVal.calls a0_2 false _ A5.out).mono ?_); rintro e w' ⟨rfl, ⟨nd, rfl⟩⟩))
   go_ret
   exact ⟨qe_, by repeat (first | (with_reducible first | exact HB.out | apply below_alloc | apply pw_below_drewN | apply below_drew1 | refine below_set ?_ GE101.out) | exact HB.out)⟩
 rw [if_neg c2] at H
 have c2b0 : (a0_0 == 1) = false := beq_eq_false_iff_ne.mpr c2
 have c2b1 : (a0_0 != 1) = true := bne_iff_ne.mpr c2
 by_cases c13 : a0_0 = 2
 rotate_left
 · rw [if_neg c13] at H
   have c13b0 : (a0_0 == 2) = false := beq_eq_false_iff_ne.mpr c13
   have c13b1 : (a0_0 != 2) = true := bne_iff_ne.mpr c13
   obtain rfl := Option.some.inj H
   go_enter Try.func75, Try.ntmps75
   go_wp2_with (first | ((with_reducible refine gate_dst (N := 1) rfl ?_); refine box_event ?hg (N := 1) ?hd (cs := #[.int .i64 a0_0, .string a0_1, .string a0_2, .int .i64 a0_3]) (t := 62) ?hr ?_; (case hd => rfl); (case hg => rfl); (case hr => first | (go_simp; done) | (go_simp; rfl)); intro gb101 hg w35 hbox hb; have n0_ := Aside0.mk (below_step qh_ hb); have n1_ := Aside0.mk (hbox); have n2_ := Aside0.mk ((by rw [hg]; exact (below_size qh_) : w.heap.size ≤ gb101)); have n3_ := Aside0.mk ((by rw [hg]; exact (below_size qh_) : w.heap.size ≤ gb101)); clear HB; have HB := n0_; have BK101 := n1_; have GW101 := n2_; have GE101 := n3_; clear n0_ n1_ n2_ n3_; clear hb hbox hg; have hcz36_0 : w35.cell? ⟨gb101, 0, none⟩ = some (.int .i64 a0_0) := (blk_cell BK101.out 0).trans rfl; have hcz36_1 : w35.cell? ⟨gb101, 1, none⟩ = some (.string a0_1) := (blk_cell BK101.out 1).trans rfl; have hcz36_2 : w35.cell? ⟨gb101, 2, none⟩ = some (.string a0_2) := (blk_cell BK101.out 2).trans rfl; have hcz36_3 : w35.cell? ⟨gb101, 3, none⟩ = some (.int .i64 a0_3) := (blk_cell BK101.out 3).trans rfl; have hfz36_0 := blk_frozen BK101.out 0; have hfz36_1 := blk_frozen BK101.out 1; have hfz36_2 := blk_frozen BK101.out 2; have hfz36_3 := blk_frozen BK101.out 3))
   go_ret
   exact ⟨qe_, by repeat (first | (with_reducible first | exact HB.out | apply below_alloc | apply pw_below_drewN | apply below_drew1 | refine below_set ?_ GE101.out) | exact HB.out)⟩
 rw [if_pos c13] at H
 have c13b0 : (a0_0 == 2) = true := beq_iff_eq.mpr c13
 have c13b1 : (a0_0 != 2) = false := bne_eq_false_iff_eq.mpr c13
 clear c13
 by_cases c14 : a0_1.toList = ([] : List UInt8)
 · rw [if_pos c14] at H
   have c14b0 : (a0_1.toList == ([] : List UInt8)) = true := beq_iff_eq.mpr c14
   have c14b1 : (a0_1.toList != ([] : List UInt8)) = false := bne_eq_false_iff_eq.mpr c14
   clear c14
   by_cases c15 : a0_2.toList = ([] : List UInt8)
   rotate_left
   · rw [if_neg c15] at H
     have c15b0 : (a0_2.toList == ([] : List UInt8)) = false := beq_eq_false_iff_ne.mpr c15
     have c15b1 : (a0_2.toList != ([] : List UInt8)) = true := bne_iff_ne.mpr c15
     obtain rfl := Option.some.inj H
     go_enter Try.func75, Try.ntmps75
     go_wp2_with (first | ((with_reducible refine gate_dst (N := 1) rfl ?_); refine box_event ?hg (N := 1) ?hd (cs := #[.int .i64 a0_0, .string a0_1, .string a0_2, .int .i64 a0_3]) (t := 62) ?hr ?_; (case hd => rfl); (case hg => rfl); (case hr => first | (go_simp; done) | (go_simp; rfl)); intro gb101 hg w21 hbox hb; have n0_ := Aside0.mk (below_step qh_ hb); have n1_ := Aside0.mk (hbox); have n2_ := Aside0.mk ((by rw [hg]; exact (below_size qh_) : w.heap.size ≤ gb101)); have n3_ := Aside0.mk ((by rw [hg]; exact (below_size qh_) : w.heap.size ≤ gb101)); clear HB; have HB := n0_; have BK101 := n1_; have GW101 := n2_; have GE101 := n3_; clear n0_ n1_ n2_ n3_; clear hb hbox hg; have hcz22_0 : w21.cell? ⟨gb101, 0, none⟩ = some (.int .i64 a0_0) := (blk_cell BK101.out 0).trans rfl; have hcz22_1 : w21.cell? ⟨gb101, 1, none⟩ = some (.string a0_1) := (blk_cell BK101.out 1).trans rfl; have hcz22_2 : w21.cell? ⟨gb101, 2, none⟩ = some (.string a0_2) := (blk_cell BK101.out 2).trans rfl; have hcz22_3 : w21.cell? ⟨gb101, 3, none⟩ = some (.int .i64 a0_3) := (blk_cell BK101.out 3).trans rfl; have hfz22_0 := blk_frozen BK101.out 0; have hfz22_1 := blk_frozen BK101.out 1; have hfz22_2 := blk_frozen BK101.out 2; have hfz22_3 := blk_frozen BK101.out 3))
     go_ret
     exact ⟨qe_, by repeat (first | (with_reducible first | exact HB.out | apply below_alloc | apply pw_below_drewN | apply below_drew1 | refine below_set ?_ GE101.out) | exact HB.out)⟩
   rw [if_pos c15] at H
   have c15b0 : (a0_2.toList == ([] : List UInt8)) = true := beq_iff_eq.mpr c15
   have c15b1 : (a0_2.toList != ([] : List UInt8)) = false := bne_eq_false_iff_eq.mpr c15
   clear c15
   by_cases c16 : a0_3 > 0
   · rw [if_pos c16] at H
     have c16b0 : decide (0 < a0_3) = true := decide_eq_true c16
     clear c16
     obtain rfl := Option.some.inj H
     go_enter Try.func75, Try.ntmps75
     go_wp2_with (first | ((with_reducible refine gate_dst (N := 1) rfl ?_); refine box_event ?hg (N := 1) ?hd (cs := #[.int .i64 a0_0, .string a0_1, .string a0_2, .int .i64 a0_3]) (t := 62) ?hr ?_; (case hd => rfl); (case hg => rfl); (case hr => first | (go_simp; done) | (go_simp; rfl)); intro gb101 hg w17 hbox hb; have n0_ := Aside0.mk (below_step qh_ hb); have n1_ := Aside0.mk (hbox); have n2_ := Aside0.mk ((by rw [hg]; exact (below_size qh_) : w.heap.size ≤ gb101)); have n3_ := Aside0.mk ((by rw [hg]; exact (below_size qh_) : w.heap.size ≤ gb101)); clear HB; have HB := n0_; have BK101 := n1_; have GW101 := n2_; have GE101 := n3_; clear n0_ n1_ n2_ n3_; clear hb hbox hg; have hcz18_0 : w17.cell? ⟨gb101, 0, none⟩ = some (.int .i64 a0_0) := (blk_cell BK101.out 0).trans rfl; have hcz18_1 : w17.cell? ⟨gb101, 1, none⟩ = some (.string a0_1) := (blk_cell BK101.out 1).trans rfl; have hcz18_2 : w17.cell? ⟨gb101, 2, none⟩ = some (.string a0_2) := (blk_cell BK101.out 2).trans rfl; have hcz18_3 : w17.cell? ⟨gb101, 3, none⟩ = some (.int .i64 a0_3) := (blk_cell BK101.out 3).trans rfl; have hfz18_0 := blk_frozen BK101.out 0; have hfz18_1 := blk_frozen BK101.out 1; have hfz18_2 := blk_frozen BK101.out 2; have hfz18_3 := blk_frozen BK101.out 3))
     go_ret
     exact ⟨qe_, by repeat (first | (with_reducible first | exact HB.out | apply below_alloc | apply pw_below_drewN | apply below_drew1 | refine below_set ?_ GE101.out) | exact HB.out)⟩
   rw [if_neg c16] at H
   have c16b0 : decide (0 < a0_3) = false := decide_eq_false c16
   clear c16
   obtain rfl := Option.some.inj H
   go_enter Try.func75, Try.ntmps75
   go_wp2_with (first | ((with_reducible refine gate_dst (N := 1) rfl ?_); refine box_event ?hg (N := 1) ?hd (cs := #[.int .i64 a0_0, .string a0_1, .string a0_2, .int .i64 a0_3]) (t := 62) ?hr ?_; (case hd => rfl); (case hg => rfl); (case hr => first | (go_simp; done) | (go_simp; rfl)); intro gb101 hg w19 hbox hb; have n0_ := Aside0.mk (below_step qh_ hb); have n1_ := Aside0.mk (hbox); have n2_ := Aside0.mk ((by rw [hg]; exact (below_size qh_) : w.heap.size ≤ gb101)); have n3_ := Aside0.mk ((by rw [hg]; exact (below_size qh_) : w.heap.size ≤ gb101)); clear HB; have HB := n0_; have BK101 := n1_; have GW101 := n2_; have GE101 := n3_; clear n0_ n1_ n2_ n3_; clear hb hbox hg; have hcz20_0 : w19.cell? ⟨gb101, 0, none⟩ = some (.int .i64 a0_0) := (blk_cell BK101.out 0).trans rfl; have hcz20_1 : w19.cell? ⟨gb101, 1, none⟩ = some (.string a0_1) := (blk_cell BK101.out 1).trans rfl; have hcz20_2 : w19.cell? ⟨gb101, 2, none⟩ = some (.string a0_2) := (blk_cell BK101.out 2).trans rfl; have hcz20_3 : w19.cell? ⟨gb101, 3, none⟩ = some (.int .i64 a0_3) := (blk_cell BK101.out 3).trans rfl; have hfz20_0 := blk_frozen BK101.out 0; have hfz20_1 := blk_frozen BK101.out 1; have hfz20_2 := blk_frozen BK101.out 2; have hfz20_3 := blk_frozen BK101.out 3))
   go_ret
   exact ⟨qe_, by repeat (first | (with_reducible first | exact HB.out | apply below_alloc | apply pw_below_drewN | apply below_drew1 | refine below_set ?_ GE101.out) | exact HB.out)⟩
 rw [if_neg c14] at H
 have c14b0 : (a0_1.toList == ([] : List UInt8)) = false := beq_eq_false_iff_ne.mpr c14
 have c14b1 : (a0_1.toList != ([] : List UInt8)) = true := bne_iff_ne.mpr c14
 replace H := Option.bind_eq_some_iff.mp H
 obtain ⟨t104, A230, H⟩ := H
 replace H : (if t104 = true then (if a0_2.toList = ([] : List UInt8) then (if a0_3 > 0 then (some (decide (a0_3 < 256))) else (some false)) else (some false)) else (some false)) = some r := H
 have A23 := Aside0.mk A230
 clear A230
 by_cases c24 : t104 = true
 rotate_left
 · replace c24 := Bool.eq_false_iff.mpr c24
   subst c24
   have H1 : (some false) = some r := by rw [if_neg (show ¬ (false = true) by decide)] at H; exact H
   clear H
   have H := H1
   clear H1
   obtain rfl := Option.some.inj H
   go_enter Try.func75, Try.ntmps75
   go_wp2_with (first | ((with_reducible refine gate_dst (N := 1) rfl ?_); refine box_event ?hg (N := 1) ?hd (cs := #[.int .i64 a0_0, .string a0_1, .string a0_2, .int .i64 a0_3]) (t := 62) ?hr ?_; (case hd => rfl); (case hg => rfl); (case hr => first | (go_simp; done) | (go_simp; rfl)); intro gb101 hg w33 hbox hb; have n0_ := Aside0.mk (below_step qh_ hb); have n1_ := Aside0.mk (hbox); have n2_ := Aside0.mk ((by rw [hg]; exact (below_size qh_) : w.heap.size ≤ gb101)); have n3_ := Aside0.mk ((by rw [hg]; exact (below_size qh_) : w.heap.size ≤ gb101)); clear HB; have HB := n0_; have BK101 := n1_; have GW101 := n2_; have GE101 := n3_; clear n0_ n1_ n2_ n3_; clear hb hbox hg; have hcz34_0 : w33.cell? ⟨gb101, 0, none⟩ = some (.int .i64 a0_0) := (blk_cell BK101.out 0).trans rfl; have hcz34_1 : w33.cell? ⟨gb101, 1, none⟩ = some (.string a0_1) := (blk_cell BK101.out 1).trans rfl; have hcz34_2 : w33.cell? ⟨gb101, 2, none⟩ = some (.string a0_2) := (blk_cell BK101.out 2).trans rfl; have hcz34_3 : w33.cell? ⟨gb101, 3, none⟩ = some (.int .i64 a0_3) := (blk_cell BK101.out 3).trans rfl; have hfz34_0 := blk_frozen BK101.out 0; have hfz34_1 := blk_frozen BK101.out 1; have hfz34_2 := blk_frozen BK101.out 2; have hfz34_3 := blk_frozen BK101.out 3) | (go_at_call 101; (with_reducible refine (key_Check.calls a0_1 false _ A23.out).mono ?_); rintro e w' ⟨rfl, ⟨nd, rfl⟩⟩))
   go_ret
   exact ⟨qe_, by repeat (first | (with_reducible first | exact HB.out | apply below_alloc | apply pw_below_drewN | apply below_drew1 | refine below_set ?_ GE101.out) | exact HB.out)⟩
 subst c24
 have H1 : (if a0_2.toList = ([] : List UInt8) then (if a0_3 > 0 then (some (decide (a0_3 < 256))) else (some false)) else (some false)) = some r := by rw [if_pos rfl] at H; exact H
 clear H
 have H := H1
 clear H1
 by_cases c25 : a0_2.toList = ([] : List UInt8)
 rotate_left
 · rw [if_neg c25] at H
   have c25b0 : (a0_2.toList == ([] : List UInt8)) = false := beq_eq_false_iff_ne.mpr c25
   have c25b1 : (a0_2.toList != ([] : List UInt8)) = true := bne_iff_ne.mpr c25
   obtain rfl := Option.some.inj H
   go_enter Try.func75, Try.ntmps75
   go_wp2_with (first | ((with_reducible refine gate_dst (N := 1) rfl ?_); refine box_event ?hg (N := 1) ?hd (cs := #[.int .i64 a0_0, .string a0_1, .string a0_2, .int .i64 a0_3]) (t := 62) ?hr ?_; (case hd => rfl); (case hg => rfl); (case hr => first | (go_simp; done) | (go_simp; rfl)); intro gb101 hg w31 hbox hb; have n0_ := Aside0.mk (below_step qh_ hb); have n1_ := Aside0.mk (hbox); have n2_ := Aside0.mk ((by rw [hg]; exact (below_size qh_) : w.heap.size ≤ gb101)); have n3_ := Aside0.mk ((by rw [hg]; exact (below_size qh_) : w.heap.size ≤ gb101)); clear HB; have HB := n0_; have BK101 := n1_; have GW101 := n2_; have GE101 := n3_; clear n0_ n1_ n2_ n3_; clear hb hbox hg; have hcz32_0 : w31.cell? ⟨gb101, 0, none⟩ = some (.int .i64 a0_0) := (blk_cell BK101.out 0).trans rfl; have hcz32_1 : w31.cell? ⟨gb101, 1, none⟩ = some (.string a0_1) := (blk_cell BK101.out 1).trans rfl; have hcz32_2 : w31.cell? ⟨gb101, 2, none⟩ = some (.string a0_2) := (blk_cell BK101.out 2).trans rfl; have hcz32_3 : w31.cell? ⟨gb101, 3, none⟩ = some (.int .i64 a0_3) := (blk_cell BK101.out 3).trans rfl; have hfz32_0 := blk_frozen BK101.out 0; have hfz32_1 := blk_frozen BK101.out 1; have hfz32_2 := blk_frozen BK101.out 2; have hfz32_3 := blk_frozen BK101.out 3) | (go_at_call 101; (with_reducible refine (key_Check.calls a0_1 true _ A23.out).mono ?_); rintro e w' ⟨rfl, ⟨nd, rfl⟩⟩))
   go_ret
   exact ⟨qe_, by repeat (first | (with_reducible first | exact HB.out | apply below_alloc | apply pw_below_drewN | apply below_drew1 | refine below_set ?_ GE101.out) | exact HB.out)⟩
 rw [if_pos c25] at H
 have c25b0 : (a0_2.toList == ([] : List UInt8)) = true := beq_iff_eq.mpr c25
 have c25b1 : (a0_2.toList != ([] : List UInt8)) = false := bne_eq_false_iff_eq.mpr c25
 clear c25
 by_cases c26 : a0_3 > 0
 · rw [if_pos c26] at H
   have c26b0 : decide (0 < a0_3) = true := decide_eq_true c26
   clear c26
   obtain rfl := Option.some.inj H
   go_enter Try.func75, Try.ntmps75
   go_wp2_with (first | ((with_reducible refine gate_dst (N := 1) rfl ?_); refine box_event ?hg (N := 1) ?hd (cs := #[.int .i64 a0_0, .string a0_1, .string a0_2, .int .i64 a0_3]) (t := 62) ?hr ?_; (case hd => rfl); (case hg => rfl); (case hr => first | (go_simp; done) | (go_simp; rfl)); intro gb101 hg w27 hbox hb; have n0_ := Aside0.mk (below_step qh_ hb); have n1_ := Aside0.mk (hbox); have n2_ := Aside0.mk ((by rw [hg]; exact (below_size qh_) : w.heap.size ≤ gb101)); have n3_ := Aside0.mk ((by rw [hg]; exact (below_size qh_) : w.heap.size ≤ gb101)); clear HB; have HB := n0_; have BK101 := n1_; have GW101 := n2_; have GE101 := n3_; clear n0_ n1_ n2_ n3_; clear hb hbox hg; have hcz28_0 : w27.cell? ⟨gb101, 0, none⟩ = some (.int .i64 a0_0) := (blk_cell BK101.out 0).trans rfl; have hcz28_1 : w27.cell? ⟨gb101, 1, none⟩ = some (.string a0_1) := (blk_cell BK101.out 1).trans rfl; have hcz28_2 : w27.cell? ⟨gb101, 2, none⟩ = some (.string a0_2) := (blk_cell BK101.out 2).trans rfl; have hcz28_3 : w27.cell? ⟨gb101, 3, none⟩ = some (.int .i64 a0_3) := (blk_cell BK101.out 3).trans rfl; have hfz28_0 := blk_frozen BK101.out 0; have hfz28_1 := blk_frozen BK101.out 1; have hfz28_2 := blk_frozen BK101.out 2; have hfz28_3 := blk_frozen BK101.out 3) | (go_at_call 101; (with_reducible refine (key_Check.calls a0_1 true _ A23.out).mono ?_); rintro e w' ⟨rfl, ⟨nd, rfl⟩⟩))
   go_ret
   exact ⟨qe_, by repeat (first | (with_reducible first | exact HB.out | apply below_alloc | apply pw_below_drewN | apply below_drew1 | refine below_set ?_ GE101.out) | exact HB.out)⟩
 rw [if_neg c26] at H
 have c26b0 : decide (0 < a0_3) = false := decide_eq_false c26
 clear c26
 obtain rfl := Option.some.inj H
 go_enter Try.func75, Try.ntmps75
 go_wp2_with (first | ((with_reducible refine gate_dst (N := 1) rfl ?_); refine box_event ?hg (N := 1) ?hd (cs := #[.int .i64 a0_0, .string a0_1, .string a0_2, .int .i64 a0_3]) (t := 62) ?hr ?_; (case hd => rfl); (case hg => rfl); (case hr => first | (go_simp; done) | (go_simp; rfl)); intro gb101 hg w29 hbox hb; have n0_ := Aside0.mk (below_step qh_ hb); have n1_ := Aside0.mk (hbox); have n2_ := Aside0.mk ((by rw [hg]; exact (below_size qh_) : w.heap.size ≤ gb101)); have n3_ := Aside0.mk ((by rw [hg]; exact (below_size qh_) : w.heap.size ≤ gb101)); clear HB; have HB := n0_; have BK101 := n1_; have GW101 := n2_; have GE101 := n3_; clear n0_ n1_ n2_ n3_; clear hb hbox hg; have hcz30_0 : w29.cell? ⟨gb101, 0, none⟩ = some (.int .i64 a0_0) := (blk_cell BK101.out 0).trans rfl; have hcz30_1 : w29.cell? ⟨gb101, 1, none⟩ = some (.string a0_1) := (blk_cell BK101.out 1).trans rfl; have hcz30_2 : w29.cell? ⟨gb101, 2, none⟩ = some (.string a0_2) := (blk_cell BK101.out 2).trans rfl; have hcz30_3 : w29.cell? ⟨gb101, 3, none⟩ = some (.int .i64 a0_3) := (blk_cell BK101.out 3).trans rfl; have hfz30_0 := blk_frozen BK101.out 0; have hfz30_1 := blk_frozen BK101.out 1; have hfz30_2 := blk_frozen BK101.out 2; have hfz30_3 := blk_frozen BK101.out 3) | (go_at_call 101; (with_reducible refine (key_Check.calls a0_1 true _ A23.out).mono ?_); rintro e w' ⟨rfl, ⟨nd, rfl⟩⟩))
 go_ret
 exact ⟨qe_, by repeat (first | (with_reducible first | exact HB.out | apply below_alloc | apply pw_below_drewN | apply below_drew1 | refine below_set ?_ GE101.out) | exact HB.out)⟩

end
end Go.Proofs.Ytliaemoomhfcdaa.RC
namespace Go.Proofs.Ytliaemoomhfcdaa
open Go.RowKit
set_option maxHeartbeats 2000000
set_option maxRecDepth 100000
set_option linter.unusedVariables false
set_option linter.unusedSimpArgs false

/-- A text of so many bytes, of a block's words from a place on. -/
def recText (l : List Int) (i : Nat) (n : Int) : ByteArray × Bool :=
  if n < 0 then (⟨#[]⟩, false) else if 21 < n then (⟨#[]⟩, false) else
    ((textOf ((l.drop i).take ((n.toNat + 6) / 7)) n.toNat).1, (textOf ((l.drop i).take ((n.toNat + 6) / 7)) n.toNat).2 == 0)
theorem recText_any (l : List Int) (hl : l.length = 16) (i : Nat) (hi : i = 3 ∨ i = 6) (n : Int) (w : World) :
    Calls Try.prog 82 #[.agg (ints l).toArray, .int .i64 (i : Int), .int .i64 n] w fun e w' => e = .returned (.tuple #[.string (recText l i n).1, .bool (recText l i n).2]) ∧ Below w.heap.size w w' := by
 obtain ⟨r, hr⟩ : ∃ r, r = recText l i n := ⟨_, rfl⟩
 rw [← hr]
 by_cases h0 : n < 0
 · have hr' : r = (⟨#[]⟩, false) := by rw [hr]; unfold recText; rw [if_pos h0]
   rw [hr']
   clear hr hr'
   go_enter Try.func82, Try.ntmps82
   go_wp2
   go_ret2
   exact ⟨rfl, (Below.refl _ _).alloc (Nat.le_refl _) _⟩
 by_cases h1 : 21 < n
 · have hr' : r = (⟨#[]⟩, false) := by rw [hr]; unfold recText; rw [if_neg h0, if_pos h1]
   rw [hr']
   clear hr hr'
   go_enter Try.func82, Try.ntmps82
   go_wp2
   go_ret2
   exact ⟨rfl, (Below.refl _ _).alloc (Nat.le_refl _) _⟩
 obtain ⟨n, rfl⟩ := Int.eq_ofNat_of_zero_le (show 0 ≤ n by omega)
 unfold recText at hr
 rw [if_neg h0, if_neg h1, Int.toNat_natCast] at hr
 have hrow := heap_alloc_new w (.cells (ints l).toArray 98)
 have hB := (Below.refl w.heap.size w).alloc (Nat.le_refl _) (.cells (ints l).toArray 98)
 have hri : RI (w.alloc (.cells (ints l).toArray 98)) (some ⟨w.heap.size, i, none⟩) ((n + 6) / 7) ((l.drop i).take ((n + 6) / 7)) := by
   have h2 := reads_block hrow i (ints (l.drop i)) (by simp [List.map_drop])
   rw [List.length_map] at h2
   exact RI.take h2 (by rw [List.length_drop]; omega)
 have HRI := Lib.hid hri
 have HB := Lib.hid hB
 have HR := Lib.hid hr
 clear hrow hri hB hr
 obtain ⟨m, hm⟩ : ∃ m, m = (n + 6) / 7 := ⟨_, rfl⟩
 have hmc : ((n : Int) + 6) / 7 = (m : Int) := by omega
 have hm3 : m ≤ 3 := by omega
 have hmn : m = n / 7 + min 1 (n % 7) := by omega
 rw [← hm] at HRI HR
 have HMN := Lib.hid hmn
 clear hm hmn
 rcases hi with rfl | rfl
 · have hb1 : (3 : Int) + (m : Int) ≤ 16 := by omega
   have hb2 : (3 : Int) ≤ 3 + (m : Int) := by omega
   go_enter Try.func82, Try.ntmps82
   go_wp2_with (go_at_call 111; refine (text_any _ m _ _ n _ HRI.out (by omega) (by omega) HMN.out).mono ?_; rintro e w5 ⟨rfl, hB5⟩)
   go_ret2
   refine ⟨?_, HB.out.next hB5⟩
   rw [HR.out]; rfl
 have hb1 : (6 : Int) + (m : Int) ≤ 16 := by omega
 have hb2 : (6 : Int) ≤ 6 + (m : Int) := by omega
 go_enter Try.func82, Try.ntmps82
 go_wp2_with (go_at_call 111; refine (text_any _ m _ _ n _ HRI.out (by omega) (by omega) HMN.out).mono ?_; rintro e w5 ⟨rfl, hB5⟩)
 go_ret2
 refine ⟨?_, HB.out.next hB5⟩
 rw [HR.out]; rfl

structure PRec where
  kind : Int
  key : ByteArray
  val : ByteArray
  child : Int
def PRec.zero : PRec := ⟨0, ⟨#[]⟩, ⟨#[]⟩, 0⟩
/-- A block's words. -/
def blockOf (ws : List Int) (b : Nat) : List Int := (ws.drop (16 * b)).take 16
/-- May a record be? -/
def recOk (x : PRec) : Bool :=
  if x.kind = 1 then decide (1 ≤ x.key.size) && decide (x.key.size ≤ 21) && decide (x.val.size ≤ 21) && decide (x.child = 0)
  else if x.kind = 2 then decide (x.key.size ≤ 21) && decide (x.val.size = 0) && decide (0 < x.child) && decide (x.child < 256) else false
def RecPost (r : PRec × Int) (w : World) (e : Ending) (w' : World) : Prop :=
  e = .returned (.tuple #[.agg #[.int .i64 r.1.kind, .string r.1.key, .string r.1.val, .int .i64 r.1.child], .int .i64 r.2]) ∧ Below w.heap.size w w'
theorem res_rec {tmps : Array Value} {W : World} {g : Nat} {k c : Int} {a b : ByteArray} {v : Value} (hp : tmps.getD 4 undef = .pointer (some ⟨g, 0, none⟩)) (hv : tmps.getD 5 undef = v)
    (h : W.heap[g]? = some (.cells #[.int .i64 k, .string a, .string b, .int .i64 c] 62 (0, 0))) :
    (results Try.f44 tmps).run Try.prog W = .ok (.tuple #[.agg #[.int .i64 k, .string a, .string b, .int .i64 c], v]) W := by
 rw [results_cell_tmp (p := 4) (u := 5) (ty := 62) rfl, hp, hv]
 have h1 := run_loadVar_row (P := Try.prog) W g 62 62 _ _ _ h Try.underlying62 rfl (by kernel_rfl)
 have h2 : (asAddr (.pointer (some ⟨g, 0, none⟩))).run Try.prog W = .ok ⟨g, 0, none⟩ W := by simp [asAddr]
 rw [h2]
 show ((loadVar 62 ⟨g, 0, none⟩).run Try.prog W).andThen _ = _
 rw [h1]
 rfl
theorem readRec_bad (A : Option Addr) (n c : Nat) (b : Int) (w : World) (hn : n ≤ 1000000000) (hb : b < 0 ∨ (n : Int) / 16 ≤ b) :
    Calls Try.prog 44 #[.slice A n c, .int .i64 b] w (RecPost (PRec.zero, 1) w) := by
 by_cases h0 : b < 0
 · go_enter Try.func44, Try.ntmps44
   go_wp2
   exact bodyPost_ret (res_rec rfl rfl (heap_alloc_new _ _)) rfl ⟨rfl, (Below.refl _ _).alloc (Nat.le_refl _) _⟩
 have h1 : (n : Int) / 16 ≤ b := by omega
 go_enter Try.func44, Try.ntmps44
 go_wp2
 exact bodyPost_ret (res_rec rfl rfl (heap_alloc_new _ _)) rfl ⟨rfl, (Below.refl _ _).alloc (Nat.le_refl _) _⟩
theorem check_is (x : PRec) : RC.rec_Check.f x.kind x.key x.val x.child = some (recOk x) := by
 obtain ⟨kind, key, val, child⟩ := x
 have he : ∀ s : ByteArray, s.toList = ([] : List UInt8) ↔ s.size = 0 := by
   intro s
   rw [ByteArray.toList_eq]
   obtain ⟨⟨l⟩⟩ := s
   show l = [] ↔ l.length = 0
   rw [List.length_eq_zero_iff]
 have k1 : (if key.toList = ([] : List UInt8) then (some false : Option Bool) else some (decide ((key.size : Int) ≤ 21))) = some (decide (1 ≤ key.size) && decide (key.size ≤ 21)) := by
   by_cases h : key.size = 0
   · rw [if_pos ((he _).2 h)]; simp [h]
   · rw [if_neg (fun hh => h ((he _).1 hh))]
     congr 1
     rw [decide_eq_true (show 1 ≤ key.size by omega), Bool.true_and]
     by_cases h2 : key.size ≤ 21
     · rw [decide_eq_true h2, decide_eq_true (by omega)]
     · rw [decide_eq_false h2, decide_eq_false (by omega)]
 have k2 : decide ((val.size : Int) ≤ 21) = decide (val.size ≤ 21) := by
   by_cases h2 : val.size ≤ 21
   · rw [decide_eq_true h2, decide_eq_true (by omega)]
   · rw [decide_eq_false h2, decide_eq_false (by omega)]
 unfold RC.rec_Check.f recOk RC.key_Check.f RC.key_CheckVal.f
 rw [k1, k2]
 simp only [Option.bind_some, he]
 have k3 : (child == 0) = decide (child = 0) := rfl
 have k4 : decide (0 < child) = decide (child > 0) := rfl
 rw [k3]
 by_cases h1 : kind = 1
 · rw [if_pos h1, if_pos h1]
   cases (decide (1 ≤ key.size) && decide (key.size ≤ 21)) <;> cases decide (val.size ≤ 21) <;> rfl
 rw [if_neg h1, if_neg h1]
 by_cases h2 : kind = 2
 rotate_left
 · rw [if_neg h2, if_neg h2]
 rw [if_pos h2, if_pos h2, k4]
 by_cases hk : key.size = 0
 · rw [if_pos hk, decide_eq_true (show key.size ≤ 21 by omega)]
   by_cases hv : val.size = 0
   · rw [if_pos hv, decide_eq_true hv]
     by_cases h5 : child > 0
     · rw [if_pos h5, decide_eq_true h5]; rfl
     rw [if_neg h5, decide_eq_false h5]; rfl
   rw [if_neg hv, decide_eq_false hv]; rfl
 rw [if_neg hk, decide_eq_true (show 1 ≤ key.size by omega)]
 by_cases hs : key.size ≤ 21
 · rw [decide_eq_true hs]
   by_cases hv : val.size = 0
   · rw [if_pos hv, decide_eq_true hv]
     by_cases h5 : child > 0
     · rw [if_pos h5, decide_eq_true h5]; rfl
     rw [if_neg h5, decide_eq_false h5]; rfl
   rw [if_neg hv, decide_eq_false hv]; rfl
 rw [decide_eq_false hs]; rfl
theorem recCheck_any (k : Int) (key val : ByteArray) (ch : Int) (w : World) : Calls Try.prog 75 #[.agg #[.int .i64 k, .string key, .string val, .int .i64 ch]] w fun e w' => e = .returned (.bool (recOk ⟨k, key, val, ch⟩)) ∧ Below w.heap.size w w' :=
  RC.rec_Check.calls k key val ch _ w (check_is ⟨k, key, val, ch⟩)
/-- The record of a block's words, or why there is none. -/
def recDone (f : List Int) (is : Bool) (x : PRec) : PRec × Int :=
  if is = false then (PRec.zero, 70) else if recOk x = false then (PRec.zero, 70) else if recWords x.kind x.key x.val x.child = f then (x, 0) else (PRec.zero, 70)
def recRead16 (f : List Int) : PRec × Int :=
  if (recText f 3 (wrap64 (Int.tdiv (f.getD 1 0) 32))).2 = false then (PRec.zero, 70)
  else if f.getD 0 0 = 1 then recDone f (recText f 6 (Int.tmod (f.getD 1 0) 32)).2 ⟨f.getD 0 0, (recText f 3 (wrap64 (Int.tdiv (f.getD 1 0) 32))).1, (recText f 6 (Int.tmod (f.getD 1 0) 32)).1, 0⟩
  else if f.getD 0 0 = 2 then recDone f true ⟨f.getD 0 0, (recText f 3 (wrap64 (Int.tdiv (f.getD 1 0) 32))).1, ⟨#[]⟩, f.getD 6 0⟩
  else recDone f true ⟨f.getD 0 0, (recText f 3 (wrap64 (Int.tdiv (f.getD 1 0) 32))).1, ⟨#[]⟩, 0⟩
theorem rec16_bad {f : List Int} {k : ByteArray} (h1 : (k, false) = recText f 3 (wrap64 (Int.tdiv (f.getD 1 0) 32))) : recRead16 f = (PRec.zero, 70) := by
 unfold recRead16; rw [← h1, if_pos rfl]
theorem rec16_1 {f : List Int} {k v : ByteArray} {is : Bool} (h1 : (k, true) = recText f 3 (wrap64 (Int.tdiv (f.getD 1 0) 32))) (hk : f.getD 0 0 = 1) (h2 : (v, is) = recText f 6 (Int.tmod (f.getD 1 0) 32)) :
    recRead16 f = recDone f is ⟨f.getD 0 0, k, v, 0⟩ := by
 unfold recRead16; rw [← h1, if_neg (by simp), if_pos hk, ← h2]
theorem rec16_2 {f : List Int} {k : ByteArray} (h1 : (k, true) = recText f 3 (wrap64 (Int.tdiv (f.getD 1 0) 32))) (hk : f.getD 0 0 = 2) : recRead16 f = recDone f true ⟨f.getD 0 0, k, ⟨#[]⟩, f.getD 6 0⟩ := by
 unfold recRead16; rw [← h1, if_neg (by simp), if_neg (by omega), if_pos hk]
theorem rec16_3 {f : List Int} {k : ByteArray} (h1 : (k, true) = recText f 3 (wrap64 (Int.tdiv (f.getD 1 0) 32))) (hk1 : ¬ f.getD 0 0 = 1) (hk2 : ¬ f.getD 0 0 = 2) : recRead16 f = recDone f true ⟨f.getD 0 0, k, ⟨#[]⟩, 0⟩ := by
 unfold recRead16; rw [← h1, if_neg (by simp), if_neg hk1, if_neg hk2]
theorem done_no (f : List Int) (x : PRec) : recDone f false x = (PRec.zero, 70) := by unfold recDone; rw [if_pos rfl]
theorem done_bad (f : List Int) {x : PRec} (h : recOk x = false) : recDone f true x = (PRec.zero, 70) := by unfold recDone; rw [if_neg (by simp), if_pos h]
theorem done_ne {f : List Int} {x : PRec} (h : recOk x = true) (hw : (recWords x.kind x.key x.val x.child == f) = false) : recDone f true x = (PRec.zero, 70) := by
 unfold recDone; rw [if_neg (by simp), if_neg (by simp [h]), if_neg (by simpa using hw)]
theorem done_ok {f : List Int} {x : PRec} (h : recOk x = true) (hw : (recWords x.kind x.key x.val x.child == f) = true) : recDone f true x = (x, 0) := by
 unfold recDone; rw [if_neg (by simp), if_neg (by simp [h]), if_pos (by simpa using hw)]
def recRead (ws : List Int) (b : Int) : PRec × Int :=
  if b < 0 then (PRec.zero, 1) else if (ws.length : Int) / 16 ≤ b then (PRec.zero, 1) else recRead16 (blockOf ws b.toNat)
/-- What lies in memory while a record is read. -/
def Three (w W : World) (g : Nat) (F : Array Value) (k : Int) (key val : ByteArray) (ch : Int) : Prop :=
  W.heap[w.heap.size]? = some (.cells #[Value.int .i64 0, Value.string ⟨#[]⟩, Value.string ⟨#[]⟩, Value.int .i64 0] 62 (0, 0)) ∧ W.heap[w.heap.size + 1]? = some (.cells F 98 (0, 0)) ∧
  W.heap[g]? = some (.cells #[.int .i64 k, .string key, .string val, .int .i64 ch] 62 (0, 0)) ∧ Below w.heap.size w W ∧ w.heap.size + 1 < g
theorem Three.lt {w W : World} {g : Nat} {F : Array Value} {k ch : Int} {key val : ByteArray} (h : Three w W g F k key val ch) : g < W.heap.size := (Array.getElem?_eq_some_iff.1 h.2.2.1).1
theorem Three.below {w W : World} {g : Nat} {F : Array Value} {k ch : Int} {key val : ByteArray} (h : Three w W g F k key val ch) {W' : World} (hb : Below W.heap.size W W') : Three w W' g F k key val ch := by
 have := h.lt
 have := h.2.2.2.2
 exact ⟨(hb.block _ (by omega)).trans h.1, (hb.block _ (by omega)).trans h.2.1, (hb.block _ (by omega)).trans h.2.2.1, h.2.2.2.1.next hb, h.2.2.2.2⟩
theorem Three.set_ {w W : World} {g : Nat} {F : Array Value} {k ch : Int} {key val : ByteArray} (h : Three w W g F k key val ch) (i : Nat) (u : Value) {k' ch' : Int} {key' val' : ByteArray} (hu : (#[Value.int .i64 k, .string key, .string val, .int .i64 ch]).setIfInBounds i u = #[Value.int .i64 k', .string key', .string val', .int .i64 ch']) :
    Three w (W.setCell ⟨g, i, none⟩ u) g F k' key' val' ch' := by
 have := h.2.2.2.2
 refine ⟨(Below.heap_setCell _ _ _ _ (by simp; omega)).trans h.1, (Below.heap_setCell _ _ _ _ (by simp; omega)).trans h.2.1, (heap_setCell_same _ _ _ _ _ _ h.2.2.1).trans (by rw [hu]), h.2.2.2.1.setCell (p := ⟨g, i, none⟩) (by simp; omega) _, h.2.2.2.2⟩
theorem Three.cell {w W : World} {g : Nat} {F : Array Value} {k ch : Int} {key val : ByteArray} (h : Three w W g F k key val ch) (j : Nat) (u : Value) (hu : F[j]? = some u) : W.cell? ⟨w.heap.size + 1, j, none⟩ = some u := by
 rw [cell_of_row _ _ _ _ _ _ h.2.1]; exact hu
theorem Three.own_ {w W : World} {g : Nat} {F : Array Value} {k ch : Int} {key val : ByteArray} (h : Three w W g F k key val ch) : W.cell? ⟨g, 0, none⟩ = some (.int .i64 k) ∧ W.cell? ⟨g, 1, none⟩ = some (.string key) ∧
    W.cell? ⟨g, 2, none⟩ = some (.string val) ∧ W.cell? ⟨g, 3, none⟩ = some (.int .i64 ch) ∧ ∀ j, W.frozen? ⟨g, j, none⟩ = false :=
  ⟨cell_of_row _ _ _ _ _ _ h.2.2.1, cell_of_row _ _ _ _ _ _ h.2.2.1, cell_of_row _ _ _ _ _ _ h.2.2.1, cell_of_row _ _ _ _ _ _ h.2.2.1, fun j => frozen_of_row _ _ _ _ _ h.2.2.1⟩

theorem ok_sizes {x : PRec} (h : recOk x = true) : x.key.size ≤ 21 ∧ x.val.size ≤ 21 := by
 unfold recOk at h
 split at h
 · simp only [Bool.and_eq_true, decide_eq_true_eq] at h; exact ⟨h.1.1.2, h.1.2⟩
 split at h
 · simp only [Bool.and_eq_true, decide_eq_true_eq] at h; exact ⟨h.1.1.1, by omega⟩
 cases h
end Go.Proofs.Ytliaemoomhfcdaa
namespace Go.Proofs.Ytliaemoomhfcdaa
open Go.RowKit
set_option maxHeartbeats 2000000
set_option maxRecDepth 100000
set_option linter.unusedVariables false
set_option linter.unusedSimpArgs false

/-- A function's region, by its number. -/
def regOf (n : Nat) : Code → Option Code
  | .region i ops d => if i = n then some (.region i ops d) else none
  | .loop c => regOf n c
  | .seq a b => match regOf n a with
    | some c => some c
    | none => regOf n b
  | .block _ c => regOf n c
  | .scope c => regOf n c
  | .cond _ a b => match regOf n a with
    | some c => some c
    | none => regOf n b
  | _ => none
noncomputable def region15 : Code := ((Try.f44.body.bind (regOf 15)).getD .skip)
/-- The region's frame, by its letters. -/
def frame15 (n g : Nat) (is : Bool) (c0 c1 c2 c3 c4 c5 c9 c10 c11 c12 c13 c14 c15 c16 c17 c18 c19 c20 c21 c22 c23 c24 c25 c26 c27 c28 c29 c30 c31 c32 c33 c34 c35 c36 c37 c38 c39 c40 c41 c42 c43 c44 c45 c46 c47 c48 c49 c50 c51 c52 c53 c54 c55 c56 c57 c58 c59 c60 c61 c62 c63 c64 c65 c66 c67 c68 c69 c70 c71 c72 : Value) : Act := ⟨#[c0, c1, c2, c3, c4, c5, .pointer (some ⟨n + 1, 0, none⟩), .pointer (some ⟨g, 0, none⟩), .bool is, c9, c10, c11, c12, c13, c14, c15, c16, c17, c18, c19, c20, c21, c22, c23, c24, c25, c26, c27, c28, c29, c30, c31, c32, c33, c34, c35, c36, c37, c38, c39, c40, c41, c42, c43, c44, c45, c46, c47, c48, c49, c50, c51, c52, c53, c54, c55, c56, c57, c58, c59, c60, c61, c62, c63, c64, c65, c66, c67, c68, c69, c70, c71, c72], []⟩
def post15 (n g : Nat) (is b : Bool) (c0 c1 c2 c3 c4 c5 c9 c10 c11 c12 c13 c14 c15 c16 c17 c18 c19 c20 c21 c22 c23 c24 c25 c26 c27 c28 c29 c30 c31 c32 c33 c34 c35 c36 c37 c38 c39 c40 c41 c42 c43 c44 c45 c46 c47 c48 c49 c50 c51 c52 c53 c54 c55 c56 c57 c58 c59 c60 c61 c62 c63 c64 c65 c66 c67 c68 c69 c70 c71 c72 : Value) (K : World → Prop) : Exit → Act → World → Prop
  | .normal, a, W' => (∃ u58 u59 u60 u61 u62 u63 u64 u65 u66 u67 u68 u69 : Value, a = ⟨#[c0, c1, c2, c3, c4, c5, .pointer (some ⟨n + 1, 0, none⟩), .pointer (some ⟨g, 0, none⟩), .bool is, c9, c10, c11, c12, c13, c14, c15, c16, c17, c18, c19, c20, c21, c22, c23, c24, c25, c26, c27, c28, c29, c30, c31, c32, c33, c34, c35, c36, c37, c38, c39, c40, c41, c42, c43, c44, c45, c46, c47, c48, c49, c50, c51, c52, c53, c54, c55, c56, c57, u58, u59, u60, u61, u62, u63, u64, u65, u66, u67, u68, u69, .bool b, c71, c72], []⟩) ∧ K W'
  | _, _, _ => False
theorem post15_ok {n g : Nat} {is b : Bool} {c0 c1 c2 c3 c4 c5 c9 c10 c11 c12 c13 c14 c15 c16 c17 c18 c19 c20 c21 c22 c23 c24 c25 c26 c27 c28 c29 c30 c31 c32 c33 c34 c35 c36 c37 c38 c39 c40 c41 c42 c43 c44 c45 c46 c47 c48 c49 c50 c51 c52 c53 c54 c55 c56 c57 c58 c59 c60 c61 c62 c63 c64 c65 c66 c67 c68 c69 c70 c71 c72 : Value} {K : World → Prop} {u58 u59 u60 u61 u62 u63 u64 u65 u66 u67 u68 u69 : Value} {W' : World} (h : K W') :
    post15 n g is b c0 c1 c2 c3 c4 c5 c9 c10 c11 c12 c13 c14 c15 c16 c17 c18 c19 c20 c21 c22 c23 c24 c25 c26 c27 c28 c29 c30 c31 c32 c33 c34 c35 c36 c37 c38 c39 c40 c41 c42 c43 c44 c45 c46 c47 c48 c49 c50 c51 c52 c53 c54 c55 c56 c57 c58 c59 c60 c61 c62 c63 c64 c65 c66 c67 c68 c69 c70 c71 c72 K .normal ⟨#[c0, c1, c2, c3, c4, c5, .pointer (some ⟨n + 1, 0, none⟩), .pointer (some ⟨g, 0, none⟩), .bool is, c9, c10, c11, c12, c13, c14, c15, c16, c17, c18, c19, c20, c21, c22, c23, c24, c25, c26, c27, c28, c29, c30, c31, c32, c33, c34, c35, c36, c37, c38, c39, c40, c41, c42, c43, c44, c45, c46, c47, c48, c49, c50, c51, c52, c53, c54, c55, c56, c57, u58, u59, u60, u61, u62, u63, u64, u65, u66, u67, u68, u69, .bool b, c71, c72], []⟩ W' := ⟨⟨_, _, _, _, _, _, _, _, _, _, _, _, rfl⟩, h⟩
set_option maxRecDepth 1000000 in
theorem reg15 (f0 f1 f2 f3 f4 f5 f6 f7 f8 f9 f10 f11 f12 f13 f14 f15 : Int) (w : World) (g : Nat) (is : Bool) (k0 : Int) (key val : ByteArray) (ch : Int) (c0 c1 c2 c3 c4 c5 c9 c10 c11 c12 c13 c14 c15 c16 c17 c18 c19 c20 c21 c22 c23 c24 c25 c26 c27 c28 c29 c30 c31 c32 c33 c34 c35 c36 c37 c38 c39 c40 c41 c42 c43 c44 c45 c46 c47 c48 c49 c50 c51 c52 c53 c54 c55 c56 c57 c58 c59 c60 c61 c62 c63 c64 c65 c66 c67 c68 c69 c70 c71 c72 : Value) (W : World)
    (HX : Hid (Three w W g (#[Value.int .i64 f0, Value.int .i64 f1, Value.int .i64 f2, Value.int .i64 f3, Value.int .i64 f4, Value.int .i64 f5, Value.int .i64 f6, Value.int .i64 f7, Value.int .i64 f8, Value.int .i64 f9, Value.int .i64 f10, Value.int .i64 f11, Value.int .i64 f12, Value.int .i64 f13, Value.int .i64 f14, Value.int .i64 f15]) k0 key val ch)) :
    Code.wp Try.prog region15 (post15 w.heap.size g is (!is || !(recOk ⟨k0, key, val, ch⟩) || !(recWords k0 key val ch == [f0, f1, f2, f3, f4, f5, f6, f7, f8, f9, f10, f11, f12, f13, f14, f15])) c0 c1 c2 c3 c4 c5 c9 c10 c11 c12 c13 c14 c15 c16 c17 c18 c19 c20 c21 c22 c23 c24 c25 c26 c27 c28 c29 c30 c31 c32 c33 c34 c35 c36 c37 c38 c39 c40 c41 c42 c43 c44 c45 c46 c47 c48 c49 c50 c51 c52 c53 c54 c55 c56 c57 c58 c59 c60 c61 c62 c63 c64 c65 c66 c67 c68 c69 c70 c71 c72 (fun W' => Three w W' g (#[Value.int .i64 f0, Value.int .i64 f1, Value.int .i64 f2, Value.int .i64 f3, Value.int .i64 f4, Value.int .i64 f5, Value.int .i64 f6, Value.int .i64 f7, Value.int .i64 f8, Value.int .i64 f9, Value.int .i64 f10, Value.int .i64 f11, Value.int .i64 f12, Value.int .i64 f13, Value.int .i64 f14, Value.int .i64 f15]) k0 key val ch)) (frame15 w.heap.size g is c0 c1 c2 c3 c4 c5 c9 c10 c11 c12 c13 c14 c15 c16 c17 c18 c19 c20 c21 c22 c23 c24 c25 c26 c27 c28 c29 c30 c31 c32 c33 c34 c35 c36 c37 c38 c39 c40 c41 c42 c43 c44 c45 c46 c47 c48 c49 c50 c51 c52 c53 c54 c55 c56 c57 c58 c59 c60 c61 c62 c63 c64 c65 c66 c67 c68 c69 c70 c71 c72) W := by
 conv => arg 2; whnf
 unfold frame15
 cases is with
 | false =>
  go_region_with (fail)
  all_goals (simp [Act.put]; first | exact post15_ok HX.out | exact post15_ok (HX.out.below (Below.refl _ _).drew))
 | true =>
  cases hok : recOk ⟨k0, key, val, ch⟩ with
  | false =>
   have hck : ∀ W, Calls Try.prog 75 #[.agg #[Value.int .i64 k0, Value.string key, Value.string val, Value.int .i64 ch]] W fun e w' => e = .returned (.bool false) ∧ Below W.heap.size W w' := by
     intro W; have := recCheck_any k0 key val ch W; rw [hok] at this; exact this
   have HCK := Lib.hid hck
   clear hck hok
   obtain ⟨q0, q1, q2, q3, _⟩ := HX.out.own_
   go_region_with (first | (go_at_call 75; refine (HCK.out _).mono ?_; rintro e w10 ⟨rfl, hB10⟩; have H10 := Lib.hid (HX.out.below (by first | exact hB10 | exact (Below.refl _ _).drew.trans hB10))))
   all_goals (simp [Act.put]; first | exact post15_ok H10.out | exact post15_ok (H10.out.below (Below.refl _ _).drew))
  | true =>
   have hck : ∀ W, Calls Try.prog 75 #[.agg #[Value.int .i64 k0, Value.string key, Value.string val, Value.int .i64 ch]] W fun e w' => e = .returned (.bool true) ∧ Below W.heap.size W w' := by
     intro W; have := recCheck_any k0 key val ch W; rw [hok] at this; exact this
   have hsz := ok_sizes hok
   simp only at hsz
   obtain ⟨arr, harr⟩ : ∃ arr : Array Value, arr = (ints (recWords k0 key val ch)).toArray := ⟨_, rfl⟩
   have hof : ∀ W, Calls Try.prog 76 #[.agg #[Value.int .i64 k0, Value.string key, Value.string val, Value.int .i64 ch]] W fun e w' => e = .returned (.agg arr) ∧ Below W.heap.size W w' := by
     intro W; rw [harr]; exact of_any k0 key val ch hsz.1 hsz.2 W
   obtain ⟨eqb, heqb⟩ : ∃ eqb : Bool, eqb = (recWords k0 key val ch == [f0, f1, f2, f3, f4, f5, f6, f7, f8, f9, f10, f11, f12, f13, f14, f15]) := ⟨_, rfl⟩
   have hne : ∀ W, (binOp .neq 98 (.agg arr) (.agg #[Value.int .i64 f0, Value.int .i64 f1, Value.int .i64 f2, Value.int .i64 f3, Value.int .i64 f4, Value.int .i64 f5, Value.int .i64 f6, Value.int .i64 f7, Value.int .i64 f8, Value.int .i64 f9, Value.int .i64 f10, Value.int .i64 f11, Value.int .i64 f12, Value.int .i64 f13, Value.int .i64 f14, Value.int .i64 f15])).run Try.prog W = .ok (.bool (!eqb)) W := by
     intro W; rw [harr, heqb]; exact neqArr (recWords k0 key val ch) [f0, f1, f2, f3, f4, f5, f6, f7, f8, f9, f10, f11, f12, f13, f14, f15] W rfl rfl
   have HCK := Lib.hid hck
   have HOF := Lib.hid hof
   rw [← heqb]
   clear hck hof hok heqb harr hsz
   obtain ⟨q0, q1, q2, q3, _⟩ := HX.out.own_
   go_region_with (first
     | (go_at_call 75; refine (HCK.out _).mono ?_; rintro e w10 ⟨rfl, hB10⟩; have H10 := Lib.hid (HX.out.below (by first | exact hB10 | exact (Below.refl _ _).drew.trans hB10)); obtain ⟨p0, p1, p2, p3, _⟩ := H10.out.own_; have y0 := H10.out.cell 0 _ rfl; have y1 := H10.out.cell 1 _ rfl; have y2 := H10.out.cell 2 _ rfl; have y3 := H10.out.cell 3 _ rfl; have y4 := H10.out.cell 4 _ rfl; have y5 := H10.out.cell 5 _ rfl; have y6 := H10.out.cell 6 _ rfl; have y7 := H10.out.cell 7 _ rfl; have y8 := H10.out.cell 8 _ rfl; have y9 := H10.out.cell 9 _ rfl; have y10 := H10.out.cell 10 _ rfl; have y11 := H10.out.cell 11 _ rfl; have y12 := H10.out.cell 12 _ rfl; have y13 := H10.out.cell 13 _ rfl; have y14 := H10.out.cell 14 _ rfl; have y15 := H10.out.cell 15 _ rfl)
     | (go_at_call 76; refine (HOF.out _).mono ?_; rintro e w11 ⟨rfl, hB11⟩; have H11 := Lib.hid (H10.out.below (by first | exact hB11 | exact (Below.refl _ _).drew.trans hB11)); have z0 := H11.out.cell 0 _ rfl; have z1 := H11.out.cell 1 _ rfl; have z2 := H11.out.cell 2 _ rfl; have z3 := H11.out.cell 3 _ rfl; have z4 := H11.out.cell 4 _ rfl; have z5 := H11.out.cell 5 _ rfl; have z6 := H11.out.cell 6 _ rfl; have z7 := H11.out.cell 7 _ rfl; have z8 := H11.out.cell 8 _ rfl; have z9 := H11.out.cell 9 _ rfl; have z10 := H11.out.cell 10 _ rfl; have z11 := H11.out.cell 11 _ rfl; have z12 := H11.out.cell 12 _ rfl; have z13 := H11.out.cell 13 _ rfl; have z14 := H11.out.cell 14 _ rfl; have z15 := H11.out.cell 15 _ rfl))
   all_goals (simp [Act.put]; first | exact post15_ok H11.out | exact post15_ok (H11.out.below (Below.refl _ _).drew))
end Go.Proofs.Ytliaemoomhfcdaa
namespace Go.Proofs.Ytliaemoomhfcdaa
open Go.RowKit
set_option maxHeartbeats 2000000
set_option maxRecDepth 100000
set_option linter.unusedVariables false
set_option linter.unusedSimpArgs false

/-- What is so behind a region that ends. -/
def okPost (F : Act → World → Prop) : Exit → Act → World → Prop
  | .normal, a, W => F a W
  | _, _, _ => False
theorem okPost_ok {A : Act → Prop} {K : World → Prop} {a : Act} {W : World} (h : A a) (h2 : K W) : okPost (fun a1 W1 => A a1 ∧ K W1) .normal a W := ⟨h, h2⟩
theorem okPost_out {F : Act → World → Prop} {o : Exit} {a : Act} {W : World} (h : okPost F o a W) : o = .normal ∧ F a W := by
 cases o <;> first | exact ⟨rfl, h⟩ | exact h.elim
theorem done_true {f : List Int} {is : Bool} {x : PRec} (h : true = (!is || !(recOk x) || !(recWords x.kind x.key x.val x.child == f))) : recDone f is x = (PRec.zero, 70) := by
 cases is with
 | false => exact done_no f x
 | true =>
  cases h1 : recOk x with
  | false => exact done_bad f h1
  | true => exact done_ne h1 (by rw [h1] at h; simpa using h)
theorem done_false {f : List Int} {is : Bool} {x : PRec} (h : false = (!is || !(recOk x) || !(recWords x.kind x.key x.val x.child == f))) : recDone f is x = (x, 0) := by
 cases is with
 | false => simp at h
 | true =>
  cases h1 : recOk x with
  | false => rw [h1] at h; simp at h
  | true => exact done_ok h1 (by rw [h1] at h; simpa using h)
theorem readRec_any (A : Option Addr) (n c : Nat) (xs : List Int) (b : Nat) (w : World) (h : RI w A n xs) (hn : n ≤ 1000000000) (hc : n ≤ c) (hb : 16 * b + 16 ≤ n) :
    Calls Try.prog 44 #[.slice A n c, .int .i64 (b : Int)] w (RecPost (recRead16 (blockOf xs b)) w) := by
 have hlen : (blockOf xs b).length = 16 := by unfold blockOf; rw [List.length_take, List.length_drop, h.len]; omega
 obtain ⟨ad, x0, rfl, _, _, _⟩ := h.at_ (k := 0) (by omega)
 have hri : RI w (some (ad.add (16 * b))) (n - 16 * b) (xs.drop (16 * b)) := RI.dropc h (k := 16 * b) (by omega) hc (by omega)
 have hread : ∀ j v, (ints (blockOf xs b))[j]? = some v → w.cell? ((ad.add (16 * b)).add j) = some v := by
   intro j v hj
   obtain ⟨ad2, e2, _, hcc⟩ := hri.2 (by omega)
   injection e2 with e2
   subst e2
   refine hcc j v ?_
   unfold blockOf at hj
   rw [List.getElem?_map, List.getElem?_take] at hj
   rw [List.getElem?_map]
   split at hj
   · exact hj
   · simp at hj
 have hblk : ad.block < w.heap.size := by obtain ⟨ad2, e2, hb2, _⟩ := h.2 (by omega); cases e2; exact hb2
 generalize blockOf xs b = f at hlen hread ⊢
 obtain ⟨f0, f1, f2, f3, f4, f5, f6, f7, f8, f9, f10, f11, f12, f13, f14, f15, rfl⟩ : ∃ f0 f1 f2 f3 f4 f5 f6 f7 f8 f9 f10 f11 f12 f13 f14 f15, f = [f0, f1, f2, f3, f4, f5, f6, f7, f8, f9, f10, f11, f12, f13, f14, f15] := by
   match f, hlen with
   | [g0, g1, g2, g3, g4, g5, g6, g7, g8, g9, g10, g11, g12, g13, g14, g15], _ => exact ⟨g0, g1, g2, g3, g4, g5, g6, g7, g8, g9, g10, g11, g12, g13, g14, g15, rfl⟩
 have HREAD := Lib.hid hread
 have HBLK := Lib.hid hblk
 have hcap : ¬ c = 16 * b := by omega
 have hI0 : (0 : Int) ≤ 16 * (b : Int) := by omega
 have hI1 : (16 : Int) * (b : Int) ≤ (n : Int) := by omega
 have hI2 : (n : Int) ≤ (c : Int) := by omega
 have hI3 : (16 * (b : Int)).toNat = 16 * b := by omega
 have hI4 : IntKind.i64.wrap (16 * (b : Int)) = 16 * (b : Int) := by rw [IntKind.wrap_i64]; omega
 clear hri hread hblk hlen h
 go_enter Try.func44, Try.ntmps44
 go_upto_region 4 with fail
 have hW0 : (((w.alloc (.cells #[Value.int .i64 0, Value.string ⟨#[]⟩, Value.string ⟨#[]⟩, Value.int .i64 0] 62)).alloc (.cells #[Value.int .i64 0, Value.int .i64 0, Value.int .i64 0, Value.int .i64 0, Value.int .i64 0, Value.int .i64 0, Value.int .i64 0, Value.int .i64 0, Value.int .i64 0, Value.int .i64 0, Value.int .i64 0, Value.int .i64 0, Value.int .i64 0, Value.int .i64 0, Value.int .i64 0, Value.int .i64 0] 98))).heap[w.heap.size + 1]? = some (.cells #[Value.int .i64 0, Value.int .i64 0, Value.int .i64 0, Value.int .i64 0, Value.int .i64 0, Value.int .i64 0, Value.int .i64 0, Value.int .i64 0, Value.int .i64 0, Value.int .i64 0, Value.int .i64 0, Value.int .i64 0, Value.int .i64 0, Value.int .i64 0, Value.int .i64 0, Value.int .i64 0] 98 (0, 0)) := by
   have := heap_alloc_new (w.alloc (.cells #[Value.int .i64 0, Value.string ⟨#[]⟩, Value.string ⟨#[]⟩, Value.int .i64 0] 62)) (.cells #[Value.int .i64 0, Value.int .i64 0, Value.int .i64 0, Value.int .i64 0, Value.int .i64 0, Value.int .i64 0, Value.int .i64 0, Value.int .i64 0, Value.int .i64 0, Value.int .i64 0, Value.int .i64 0, Value.int .i64 0, Value.int .i64 0, Value.int .i64 0, Value.int .i64 0, Value.int .i64 0] 98)
   rwa [World.size_alloc] at this
 have hW1 : (((w.alloc (.cells #[Value.int .i64 0, Value.string ⟨#[]⟩, Value.string ⟨#[]⟩, Value.int .i64 0] 62)).alloc (.cells #[Value.int .i64 0, Value.int .i64 0, Value.int .i64 0, Value.int .i64 0, Value.int .i64 0, Value.int .i64 0, Value.int .i64 0, Value.int .i64 0, Value.int .i64 0, Value.int .i64 0, Value.int .i64 0, Value.int .i64 0, Value.int .i64 0, Value.int .i64 0, Value.int .i64 0, Value.int .i64 0] 98))).heap[w.heap.size]? = some (.cells #[Value.int .i64 0, Value.string ⟨#[]⟩, Value.string ⟨#[]⟩, Value.int .i64 0] 62 (0, 0)) := (Below.heap_alloc _ _ _ (by simp)).trans (heap_alloc_new _ _)
 have hWB : Below w.heap.size w (((w.alloc (.cells #[Value.int .i64 0, Value.string ⟨#[]⟩, Value.string ⟨#[]⟩, Value.int .i64 0] 62)).alloc (.cells #[Value.int .i64 0, Value.int .i64 0, Value.int .i64 0, Value.int .i64 0, Value.int .i64 0, Value.int .i64 0, Value.int .i64 0, Value.int .i64 0, Value.int .i64 0, Value.int .i64 0, Value.int .i64 0, Value.int .i64 0, Value.int .i64 0, Value.int .i64 0, Value.int .i64 0, Value.int .i64 0] 98))) := ((Below.refl _ _).alloc (Nat.le_refl _) _).alloc (by simp) _
 have hWR : ∀ j v, ([Value.int .i64 f0, Value.int .i64 f1, Value.int .i64 f2, Value.int .i64 f3, Value.int .i64 f4, Value.int .i64 f5, Value.int .i64 f6, Value.int .i64 f7, Value.int .i64 f8, Value.int .i64 f9, Value.int .i64 f10, Value.int .i64 f11, Value.int .i64 f12, Value.int .i64 f13, Value.int .i64 f14, Value.int .i64 f15])[j]? = some v → (((w.alloc (.cells #[Value.int .i64 0, Value.string ⟨#[]⟩, Value.string ⟨#[]⟩, Value.int .i64 0] 62)).alloc (.cells #[Value.int .i64 0, Value.int .i64 0, Value.int .i64 0, Value.int .i64 0, Value.int .i64 0, Value.int .i64 0, Value.int .i64 0, Value.int .i64 0, Value.int .i64 0, Value.int .i64 0, Value.int .i64 0, Value.int .i64 0, Value.int .i64 0, Value.int .i64 0, Value.int .i64 0, Value.int .i64 0] 98))).cell? ((ad.add (16 * b)).add j) = some v := fun j v hj => (hWB.cell (p := (ad.add (16 * b)).add j) (by rw [block_of_add, block_of_add]; exact HBLK.out)).trans (HREAD.out j v hj)
 have HW0 := Lib.hid hW0
 have HW1 := Lib.hid hW1
 have HWB := Lib.hid hWB
 have HWR := Lib.hid hWR
 clear hW0 hW1 hWB hWR
 go_cut [] (fun wc => Hid (wc.heap[w.heap.size]? = some (.cells #[Value.int .i64 0, Value.string ⟨#[]⟩, Value.string ⟨#[]⟩, Value.int .i64 0] 62 (0, 0))) ∧ Hid (wc.heap[w.heap.size + 1]? = some (.cells #[Value.int .i64 f0, Value.int .i64 f1, Value.int .i64 f2, Value.int .i64 f3, Value.int .i64 f4, Value.int .i64 f5, Value.int .i64 f6, Value.int .i64 f7, Value.int .i64 f8, Value.int .i64 f9, Value.int .i64 f10, Value.int .i64 f11, Value.int .i64 f12, Value.int .i64 f13, Value.int .i64 f14, Value.int .i64 f15] 98 (0, 0))) ∧ Hid (Below w.heap.size w wc))
 case first =>
  go_region_law (refine step_copy_splice rfl (.tmp 19) (.tmp 23) 22 22 rfl 3 Try.underlying22 (by kernel_rfl) _ _ _ _ _ _ rfl rfl (w.heap.size + 1) 0 [Value.int .i64 0, Value.int .i64 0, Value.int .i64 0, Value.int .i64 0, Value.int .i64 0, Value.int .i64 0, Value.int .i64 0, Value.int .i64 0, Value.int .i64 0, Value.int .i64 0, Value.int .i64 0, Value.int .i64 0, Value.int .i64 0, Value.int .i64 0, Value.int .i64 0, Value.int .i64 0] 98 HW0.out [Value.int .i64 f0, Value.int .i64 f1, Value.int .i64 f2, Value.int .i64 f3, Value.int .i64 f4, Value.int .i64 f5, Value.int .i64 f6, Value.int .i64 f7, Value.int .i64 f8, Value.int .i64 f9, Value.int .i64 f10, Value.int .i64 f11, Value.int .i64 f12, Value.int .i64 f13, Value.int .i64 f14, Value.int .i64 f15] (by show 16 = _; exact (Nat.min_eq_right (by omega)).symm) (fun h0 => ⟨rfl, _, rfl, HWR.out⟩) (by simp) (by simp [Value.oneCell']) (w.heap.size + 1) (((w.alloc (.cells #[Value.int .i64 0, Value.string ⟨#[]⟩, Value.string ⟨#[]⟩, Value.int .i64 0] 62)).alloc (.cells #[Value.int .i64 0, Value.int .i64 0, Value.int .i64 0, Value.int .i64 0, Value.int .i64 0, Value.int .i64 0, Value.int .i64 0, Value.int .i64 0, Value.int .i64 0, Value.int .i64 0, Value.int .i64 0, Value.int .i64 0, Value.int .i64 0, Value.int .i64 0, Value.int .i64 0, Value.int .i64 0] 98))) (Below.refl _ (((w.alloc (.cells #[Value.int .i64 0, Value.string ⟨#[]⟩, Value.string ⟨#[]⟩, Value.int .i64 0] 62)).alloc (.cells #[Value.int .i64 0, Value.int .i64 0, Value.int .i64 0, Value.int .i64 0, Value.int .i64 0, Value.int .i64 0, Value.int .i64 0, Value.int .i64 0, Value.int .i64 0, Value.int .i64 0, Value.int .i64 0, Value.int .i64 0, Value.int .i64 0, Value.int .i64 0, Value.int .i64 0, Value.int .i64 0] 98)))).drew (Nat.le_refl _) ?_; intro w6 HG6 hB6)
  all_goals (go_wp2_with fail; go_meet; exact ⟨Lib.hid ((hB6.block _ (by omega)).trans HW1.out), Lib.hid HG6.out, Lib.hid (HWB.out.trans (hB6.mono (by omega)))⟩)
 case rest =>
 obtain ⟨HA0, HA1, HAB⟩ := hcut
 obtain ⟨W1, rfl⟩ : ∃ W1 : World, W1 = wc := ⟨_, rfl⟩
 clear HW0 HW1 HWB HWR HREAD
 have hc0 : W1.cell? ⟨w.heap.size + 1, 0, none⟩ = some (.int .i64 f0) := by rw [cell_of_row _ _ _ _ _ _ HA1.out]; rfl
 have hs1 : w.heap.size + 1 < W1.heap.size := (Array.getElem?_eq_some_iff.1 HA1.out).1
 have h3 : Three w (W1.alloc (.cells #[Value.int .i64 f0, Value.string ⟨#[]⟩, Value.string ⟨#[]⟩, Value.int .i64 0] 62)) W1.heap.size (#[Value.int .i64 f0, Value.int .i64 f1, Value.int .i64 f2, Value.int .i64 f3, Value.int .i64 f4, Value.int .i64 f5, Value.int .i64 f6, Value.int .i64 f7, Value.int .i64 f8, Value.int .i64 f9, Value.int .i64 f10, Value.int .i64 f11, Value.int .i64 f12, Value.int .i64 f13, Value.int .i64 f14, Value.int .i64 f15]) f0 ⟨#[]⟩ ⟨#[]⟩ 0 :=
   ⟨(Below.heap_alloc _ _ _ (by omega)).trans HA0.out, (Below.heap_alloc _ _ _ hs1).trans HA1.out, heap_alloc_new _ _, HAB.out.alloc HAB.out.size _, hs1⟩
 have H3 := Lib.hid h3
 clear h3 hs1
 go_upto_region 5 with fail
 go_cut [7] (fun s wc => ∃ g, s = .pointer (some ⟨g, 0, none⟩) ∧ Hid (Three w wc g (#[Value.int .i64 f0, Value.int .i64 f1, Value.int .i64 f2, Value.int .i64 f3, Value.int .i64 f4, Value.int .i64 f5, Value.int .i64 f6, Value.int .i64 f7, Value.int .i64 f8, Value.int .i64 f9, Value.int .i64 f10, Value.int .i64 f11, Value.int .i64 f12, Value.int .i64 f13, Value.int .i64 f14, Value.int .i64 f15]) f0 ⟨#[]⟩ ⟨#[]⟩ 0))
 case first =>
  go_wp2_with fail
  go_meet
  exact ⟨_, rfl, H3⟩
 case rest =>
 obtain ⟨g, rfl, H4⟩ := hcut
 obtain ⟨W2, rfl⟩ : ∃ W2 : World, W2 = wc := ⟨_, rfl⟩
 clear HA0 HA1 HAB hc0 H3
 have c1 := H4.out.cell 1 _ rfl
 obtain ⟨t1, ht1⟩ : ∃ t1, t1 = recText [f0, f1, f2, f3, f4, f5, f6, f7, f8, f9, f10, f11, f12, f13, f14, f15] 3 (wrap64 (Int.tdiv f1 32)) := ⟨_, rfl⟩
 obtain ⟨key, is1⟩ := t1
 have hcall1 : ∀ W, Calls Try.prog 82 #[.agg #[Value.int .i64 f0, Value.int .i64 f1, Value.int .i64 f2, Value.int .i64 f3, Value.int .i64 f4, Value.int .i64 f5, Value.int .i64 f6, Value.int .i64 f7, Value.int .i64 f8, Value.int .i64 f9, Value.int .i64 f10, Value.int .i64 f11, Value.int .i64 f12, Value.int .i64 f13, Value.int .i64 f14, Value.int .i64 f15], .int .i64 3, .int .i64 (wrap64 (f1.tdiv 32))] W fun e w' => e = .returned (.tuple #[.string key, .bool is1]) ∧ Below W.heap.size W w' := by
   intro W
   have := recText_any [f0, f1, f2, f3, f4, f5, f6, f7, f8, f9, f10, f11, f12, f13, f14, f15] rfl 3 (.inl rfl) (wrap64 (Int.tdiv f1 32)) W
   rw [← ht1] at this
   exact this
 have HT1 := Lib.hid ht1
 have HCALL1 := Lib.hid hcall1
 clear ht1 hcall1
 go_upto_region 7 with fail
 go_cut [8] (fun s wc => s = .bool is1 ∧ Hid (Three w wc g (#[Value.int .i64 f0, Value.int .i64 f1, Value.int .i64 f2, Value.int .i64 f3, Value.int .i64 f4, Value.int .i64 f5, Value.int .i64 f6, Value.int .i64 f7, Value.int .i64 f8, Value.int .i64 f9, Value.int .i64 f10, Value.int .i64 f11, Value.int .i64 f12, Value.int .i64 f13, Value.int .i64 f14, Value.int .i64 f15]) f0 key ⟨#[]⟩ 0))
 case first =>
  go_wp2_with (first
    | (refine wpList_load_row rfl 98 _ rfl (w.heap.size + 1) rfl 98 #[Value.int .i64 f0, Value.int .i64 f1, Value.int .i64 f2, Value.int .i64 f3, Value.int .i64 f4, Value.int .i64 f5, Value.int .i64 f6, Value.int .i64 f7, Value.int .i64 f8, Value.int .i64 f9, Value.int .i64 f10, Value.int .i64 f11, Value.int .i64 f12, Value.int .i64 f13, Value.int .i64 f14, Value.int .i64 f15] (0, 0) _ H4.out.2.1 Try.underlying98 rfl (by kernel_rfl) ?_)
    | (go_at_call 82; refine (HCALL1.out _).mono ?_; rintro e w5 ⟨rfl, hB5⟩; have H5 := Lib.hid (H4.out.below hB5); obtain ⟨q0, q1, q2, q3, qf⟩ := H5.out.own_; have qf1 := qf 1; clear qf))
  go_meet
  exact ⟨rfl, Lib.hid (H5.out.set_ 1 _ rfl)⟩
 case rest =>
 obtain ⟨rfl, H5⟩ := hcut
 obtain ⟨W3, rfl⟩ : ∃ W3 : World, W3 = wc := ⟨_, rfl⟩
 clear H4 c1 HCALL1
 cases is1 with
 | false =>
  have hres : recRead16 [f0, f1, f2, f3, f4, f5, f6, f7, f8, f9, f10, f11, f12, f13, f14, f15] = (PRec.zero, 70) := by exact rec16_bad (f := [f0, f1, f2, f3, f4, f5, f6, f7, f8, f9, f10, f11, f12, f13, f14, f15]) HT1.out
  have HRES := Lib.hid hres
  clear hres
  go_wp2_with (first
    | (refine wpList_store_row rfl 62 _ _ rfl w.heap.size #[Value.int .i64 0, Value.string ⟨#[]⟩, Value.string ⟨#[]⟩, Value.int .i64 0] rfl rfl 62 #[Value.int .i64 0, Value.string ⟨#[]⟩, Value.string ⟨#[]⟩, Value.int .i64 0] H5.out.1 (by kernel_rfl) rfl (by simp [Value.oneCell']) ?_))
  exact bodyPost_ret (res_rec rfl rfl (setRow_heap _ _ _ _ _ _ H5.out.1)) rfl ⟨by rw [HRES.out]; rfl, below_setRow H5.out.2.2.2.1 (Nat.le_refl _) _⟩
 | true =>
 obtain ⟨q0, q1, q2, q3, qf⟩ := H5.out.own_
 have c1 := H5.out.cell 1 _ rfl
 have c6 := H5.out.cell 6 _ rfl
 have qf3 := qf 3
 clear qf
 by_cases hk1 : f0 = 1
 · obtain ⟨t2, ht2⟩ : ∃ t2, t2 = recText [f0, f1, f2, f3, f4, f5, f6, f7, f8, f9, f10, f11, f12, f13, f14, f15] 6 (Int.tmod f1 32) := ⟨_, rfl⟩
   obtain ⟨v2, is2⟩ := t2
   have hcall2 : ∀ W, Calls Try.prog 82 #[.agg #[Value.int .i64 f0, Value.int .i64 f1, Value.int .i64 f2, Value.int .i64 f3, Value.int .i64 f4, Value.int .i64 f5, Value.int .i64 f6, Value.int .i64 f7, Value.int .i64 f8, Value.int .i64 f9, Value.int .i64 f10, Value.int .i64 f11, Value.int .i64 f12, Value.int .i64 f13, Value.int .i64 f14, Value.int .i64 f15], .int .i64 6, .int .i64 (f1.tmod 32)] W fun e w' => e = .returned (.tuple #[.string v2, .bool is2]) ∧ Below W.heap.size W w' := by
     intro W
     have := recText_any [f0, f1, f2, f3, f4, f5, f6, f7, f8, f9, f10, f11, f12, f13, f14, f15] rfl 6 (.inr rfl) (Int.tmod f1 32) W
     rw [← ht2] at this
     exact this
   have HT2 := Lib.hid ht2
   have HCALL2 := Lib.hid hcall2
   clear ht2 hcall2
   go_upto_region 12 with fail
   have HK1 := Lib.hid hk1
   clear hk1
   refine Code.wp_mono (Q := okPost (fun a1 W' => (∃ x44 x45 x46 x47 x48 x49 x50 x51 x52 : Value, a1 = ⟨#[.slice (some ad) n c, .int .i64 (b : Int), undef, undef, .pointer (some ⟨w.heap.size, 0, none⟩), .int .i64 0, .pointer (some ⟨w.heap.size + 1, 0, none⟩), .pointer (some ⟨g, 0, none⟩), .bool is2, u9, u10, u11, u12, u13, u14, u15, u16, u17, u18, u19, u20, u21, u22, u23, u24, u25, u26, u27, u28, u29, u30, u31, u32, u33, u34, u35, u36, .bool true, .bool false, u39, .pointer (some ⟨g, 0, none⟩), .int .i64 1, .bool true, .bool true, x44, x45, x46, x47, x48, x49, x50, x51, x52, undef, u54, u55, u56, u57, u58, u59, u60, u61, u62, u63, u64, u65, u66, u67, u68, u69, u70, u71, u72], []⟩) ∧ Hid (Three w W' g (#[Value.int .i64 f0, Value.int .i64 f1, Value.int .i64 f2, Value.int .i64 f3, Value.int .i64 f4, Value.int .i64 f5, Value.int .i64 f6, Value.int .i64 f7, Value.int .i64 f8, Value.int .i64 f9, Value.int .i64 f10, Value.int .i64 f11, Value.int .i64 f12, Value.int .i64 f13, Value.int .i64 f14, Value.int .i64 f15]) f0 key v2 0))) (fun o a1 W4 hpost => ?rest) ?first
   case first =>
    go_wp2_with (first
      | (refine wpList_load_row rfl 98 _ rfl (w.heap.size + 1) rfl 98 #[Value.int .i64 f0, Value.int .i64 f1, Value.int .i64 f2, Value.int .i64 f3, Value.int .i64 f4, Value.int .i64 f5, Value.int .i64 f6, Value.int .i64 f7, Value.int .i64 f8, Value.int .i64 f9, Value.int .i64 f10, Value.int .i64 f11, Value.int .i64 f12, Value.int .i64 f13, Value.int .i64 f14, Value.int .i64 f15] (0, 0) _ H5.out.2.1 Try.underlying98 rfl (by kernel_rfl) ?_)
      | (go_at_call 82; refine (HCALL2.out _).mono ?_; rintro e w5 ⟨rfl, hB5⟩; have H6 := Lib.hid (H5.out.below hB5); obtain ⟨q0, q1, q2, q3, qf⟩ := H6.out.own_; have qf2 := qf 2; clear qf))
    exact okPost_ok ⟨_, _, _, _, _, _, _, _, _, rfl⟩ (Lib.hid (H6.out.set_ 2 _ rfl))
   case rest =>
   obtain ⟨rfl, ⟨x44, x45, x46, x47, x48, x49, x50, x51, x52, rfl⟩, H6⟩ := okPost_out hpost
   clear HCALL2 q0 q1 q2 q3 c1 c6
   obtain ⟨q0, q1, q2, q3, qf⟩ := H6.out.own_
   have HX := H6
   go_upto_region 15 with fail
   obtain ⟨bad, hbad⟩ : ∃ bad : Bool, bad = (!is2 || !(recOk ⟨f0, key, v2, 0⟩) || !(recWords f0 key v2 0 == [f0, f1, f2, f3, f4, f5, f6, f7, f8, f9, f10, f11, f12, f13, f14, f15])) := ⟨_, rfl⟩
   have HBAD := Lib.hid hbad
   have h15 := fun c0 c1 c2 c3 c4 c5 c9 c10 c11 c12 c13 c14 c15 c16 c17 c18 c19 c20 c21 c22 c23 c24 c25 c26 c27 c28 c29 c30 c31 c32 c33 c34 c35 c36 c37 c38 c39 c40 c41 c42 c43 c44 c45 c46 c47 c48 c49 c50 c51 c52 c53 c54 c55 c56 c57 c58 c59 c60 c61 c62 c63 c64 c65 c66 c67 c68 c69 c70 c71 c72 => reg15 f0 f1 f2 f3 f4 f5 f6 f7 f8 f9 f10 f11 f12 f13 f14 f15 w g is2 f0 key v2 0 c0 c1 c2 c3 c4 c5 c9 c10 c11 c12 c13 c14 c15 c16 c17 c18 c19 c20 c21 c22 c23 c24 c25 c26 c27 c28 c29 c30 c31 c32 c33 c34 c35 c36 c37 c38 c39 c40 c41 c42 c43 c44 c45 c46 c47 c48 c49 c50 c51 c52 c53 c54 c55 c56 c57 c58 c59 c60 c61 c62 c63 c64 c65 c66 c67 c68 c69 c70 c71 c72 _ HX
   rw [← hbad] at h15
   clear hbad
   refine Code.wp_mono (fun o a1 W9 hpost => ?_) (h15 _ _ _ _ _ _ _ _ _ _ _ _ _ _ _ _ _ _ _ _ _ _ _ _ _ _ _ _ _ _ _ _ _ _ _ _ _ _ _ _ _ _ _ _ _ _ _ _ _ _ _ _ _ _ _ _ _ _ _ _ _ _ _ _ _ _ _ _ _ _)
   clear h15
   cases o with
   | normal =>
    obtain ⟨⟨u58, u59, u60, u61, u62, u63, u64, u65, u66, u67, u68, u69, rfl⟩, hK⟩ := hpost
    have H9 := Lib.hid hK
    clear hK
    cases bad with
    | true =>
     have hres : recRead16 [f0, f1, f2, f3, f4, f5, f6, f7, f8, f9, f10, f11, f12, f13, f14, f15] = (PRec.zero, 70) := (rec16_1 (f := [f0, f1, f2, f3, f4, f5, f6, f7, f8, f9, f10, f11, f12, f13, f14, f15]) HT1.out HK1.out HT2.out).trans (done_true HBAD.out)
     have HRES := Lib.hid hres
     clear hres
     go_wp2_with (first
       | (refine wpList_store_row rfl 62 _ _ rfl w.heap.size #[Value.int .i64 0, Value.string ⟨#[]⟩, Value.string ⟨#[]⟩, Value.int .i64 0] rfl rfl 62 #[Value.int .i64 0, Value.string ⟨#[]⟩, Value.string ⟨#[]⟩, Value.int .i64 0] H9.out.1 (by kernel_rfl) rfl (by simp [Value.oneCell']) ?_))
     exact bodyPost_ret (res_rec rfl rfl (setRow_heap _ _ _ _ _ _ H9.out.1)) rfl ⟨by first | (rw [HRES.out]; rfl) | (have h77 := HRES.out; rw [hk2] at h77; rw [h77]; rfl) | (rw [HRES.out, hk2]; rfl) | (rw [HRES.out]; simp only [hk2]; rfl), below_setRow H9.out.2.2.2.1 (Nat.le_refl _) _⟩
    | false =>
     have hres : recRead16 [f0, f1, f2, f3, f4, f5, f6, f7, f8, f9, f10, f11, f12, f13, f14, f15] = (⟨f0, key, v2, 0⟩, 0) := (rec16_1 (f := [f0, f1, f2, f3, f4, f5, f6, f7, f8, f9, f10, f11, f12, f13, f14, f15]) HT1.out HK1.out HT2.out).trans (done_false HBAD.out)
     have HRES := Lib.hid hres
     clear hres
     go_wp2_with (first
       | (refine wpList_load_row rfl 62 _ rfl g rfl 62 #[Value.int .i64 f0, Value.string key, Value.string v2, Value.int .i64 0] (0, 0) _ H9.out.2.2.1 Try.underlying62 rfl (by kernel_rfl) ?_)
       | (refine wpList_store_row rfl 62 _ _ rfl w.heap.size #[Value.int .i64 f0, Value.string key, Value.string v2, Value.int .i64 0] rfl rfl 62 #[Value.int .i64 0, Value.string ⟨#[]⟩, Value.string ⟨#[]⟩, Value.int .i64 0] H9.out.1 (by kernel_rfl) rfl (by simp [Value.oneCell']) ?_))
     exact bodyPost_ret (res_rec rfl rfl (setRow_heap _ _ _ _ _ _ H9.out.1)) rfl ⟨by first | (rw [HRES.out]; rfl) | (have h77 := HRES.out; rw [hk2] at h77; rw [h77]; rfl) | (rw [HRES.out, hk2]; rfl) | (rw [HRES.out]; simp only [hk2]; rfl), below_setRow H9.out.2.2.2.1 (Nat.le_refl _) _⟩
   | _ => exact hpost.elim
 by_cases hk2 : f0 = 2
 · have HX := Lib.hid (H5.out.set_ 3 (.int .i64 f6) rfl)
   go_upto_region 15 with fail
   obtain ⟨bad, hbad⟩ : ∃ bad : Bool, bad = (!true || !(recOk ⟨f0, key, ⟨#[]⟩, f6⟩) || !(recWords f0 key ⟨#[]⟩ f6 == [f0, f1, f2, f3, f4, f5, f6, f7, f8, f9, f10, f11, f12, f13, f14, f15])) := ⟨_, rfl⟩
   have HBAD := Lib.hid hbad
   have h15 := fun c0 c1 c2 c3 c4 c5 c9 c10 c11 c12 c13 c14 c15 c16 c17 c18 c19 c20 c21 c22 c23 c24 c25 c26 c27 c28 c29 c30 c31 c32 c33 c34 c35 c36 c37 c38 c39 c40 c41 c42 c43 c44 c45 c46 c47 c48 c49 c50 c51 c52 c53 c54 c55 c56 c57 c58 c59 c60 c61 c62 c63 c64 c65 c66 c67 c68 c69 c70 c71 c72 => reg15 f0 f1 f2 f3 f4 f5 f6 f7 f8 f9 f10 f11 f12 f13 f14 f15 w g true f0 key ⟨#[]⟩ f6 c0 c1 c2 c3 c4 c5 c9 c10 c11 c12 c13 c14 c15 c16 c17 c18 c19 c20 c21 c22 c23 c24 c25 c26 c27 c28 c29 c30 c31 c32 c33 c34 c35 c36 c37 c38 c39 c40 c41 c42 c43 c44 c45 c46 c47 c48 c49 c50 c51 c52 c53 c54 c55 c56 c57 c58 c59 c60 c61 c62 c63 c64 c65 c66 c67 c68 c69 c70 c71 c72 _ HX
   rw [← hbad] at h15
   clear hbad
   refine Code.wp_mono (fun o a1 W9 hpost => ?_) (h15 _ _ _ _ _ _ _ _ _ _ _ _ _ _ _ _ _ _ _ _ _ _ _ _ _ _ _ _ _ _ _ _ _ _ _ _ _ _ _ _ _ _ _ _ _ _ _ _ _ _ _ _ _ _ _ _ _ _ _ _ _ _ _ _ _ _ _ _ _ _)
   clear h15
   cases o with
   | normal =>
    obtain ⟨⟨u58, u59, u60, u61, u62, u63, u64, u65, u66, u67, u68, u69, rfl⟩, hK⟩ := hpost
    have H9 := Lib.hid hK
    clear hK
    cases bad with
    | true =>
     have hres : recRead16 [f0, f1, f2, f3, f4, f5, f6, f7, f8, f9, f10, f11, f12, f13, f14, f15] = (PRec.zero, 70) := (rec16_2 (f := [f0, f1, f2, f3, f4, f5, f6, f7, f8, f9, f10, f11, f12, f13, f14, f15]) HT1.out hk2).trans (done_true HBAD.out)
     have HRES := Lib.hid hres
     clear hres
     go_wp2_with (first
       | (refine wpList_store_row rfl 62 _ _ rfl w.heap.size #[Value.int .i64 0, Value.string ⟨#[]⟩, Value.string ⟨#[]⟩, Value.int .i64 0] rfl rfl 62 #[Value.int .i64 0, Value.string ⟨#[]⟩, Value.string ⟨#[]⟩, Value.int .i64 0] H9.out.1 (by kernel_rfl) rfl (by simp [Value.oneCell']) ?_))
     exact bodyPost_ret (res_rec rfl rfl (setRow_heap _ _ _ _ _ _ H9.out.1)) rfl ⟨by first | (rw [HRES.out]; rfl) | (have h77 := HRES.out; rw [hk2] at h77; rw [h77]; rfl) | (rw [HRES.out, hk2]; rfl) | (rw [HRES.out]; simp only [hk2]; rfl), below_setRow H9.out.2.2.2.1 (Nat.le_refl _) _⟩
    | false =>
     have hres : recRead16 [f0, f1, f2, f3, f4, f5, f6, f7, f8, f9, f10, f11, f12, f13, f14, f15] = (⟨f0, key, ⟨#[]⟩, f6⟩, 0) := (rec16_2 (f := [f0, f1, f2, f3, f4, f5, f6, f7, f8, f9, f10, f11, f12, f13, f14, f15]) HT1.out hk2).trans (done_false HBAD.out)
     have HRES := Lib.hid hres
     clear hres
     go_wp2_with (first
       | (refine wpList_load_row rfl 62 _ rfl g rfl 62 #[Value.int .i64 f0, Value.string key, Value.string ⟨#[]⟩, Value.int .i64 f6] (0, 0) _ H9.out.2.2.1 Try.underlying62 rfl (by kernel_rfl) ?_)
       | (refine wpList_store_row rfl 62 _ _ rfl w.heap.size #[Value.int .i64 f0, Value.string key, Value.string ⟨#[]⟩, Value.int .i64 f6] rfl rfl 62 #[Value.int .i64 0, Value.string ⟨#[]⟩, Value.string ⟨#[]⟩, Value.int .i64 0] H9.out.1 (by kernel_rfl) rfl (by simp [Value.oneCell']) ?_))
     exact bodyPost_ret (res_rec rfl rfl (setRow_heap _ _ _ _ _ _ H9.out.1)) rfl ⟨by first | (rw [HRES.out]; rfl) | (have h77 := HRES.out; rw [hk2] at h77; rw [h77]; rfl) | (rw [HRES.out, hk2]; rfl) | (rw [HRES.out]; simp only [hk2]; rfl), below_setRow H9.out.2.2.2.1 (Nat.le_refl _) _⟩
   | _ => exact hpost.elim
 have HX := H5
 go_upto_region 15 with fail
 obtain ⟨bad, hbad⟩ : ∃ bad : Bool, bad = (!true || !(recOk ⟨f0, key, ⟨#[]⟩, 0⟩) || !(recWords f0 key ⟨#[]⟩ 0 == [f0, f1, f2, f3, f4, f5, f6, f7, f8, f9, f10, f11, f12, f13, f14, f15])) := ⟨_, rfl⟩
 have HBAD := Lib.hid hbad
 have h15 := fun c0 c1 c2 c3 c4 c5 c9 c10 c11 c12 c13 c14 c15 c16 c17 c18 c19 c20 c21 c22 c23 c24 c25 c26 c27 c28 c29 c30 c31 c32 c33 c34 c35 c36 c37 c38 c39 c40 c41 c42 c43 c44 c45 c46 c47 c48 c49 c50 c51 c52 c53 c54 c55 c56 c57 c58 c59 c60 c61 c62 c63 c64 c65 c66 c67 c68 c69 c70 c71 c72 => reg15 f0 f1 f2 f3 f4 f5 f6 f7 f8 f9 f10 f11 f12 f13 f14 f15 w g true f0 key ⟨#[]⟩ 0 c0 c1 c2 c3 c4 c5 c9 c10 c11 c12 c13 c14 c15 c16 c17 c18 c19 c20 c21 c22 c23 c24 c25 c26 c27 c28 c29 c30 c31 c32 c33 c34 c35 c36 c37 c38 c39 c40 c41 c42 c43 c44 c45 c46 c47 c48 c49 c50 c51 c52 c53 c54 c55 c56 c57 c58 c59 c60 c61 c62 c63 c64 c65 c66 c67 c68 c69 c70 c71 c72 _ HX
 rw [← hbad] at h15
 clear hbad
 refine Code.wp_mono (fun o a1 W9 hpost => ?_) (h15 _ _ _ _ _ _ _ _ _ _ _ _ _ _ _ _ _ _ _ _ _ _ _ _ _ _ _ _ _ _ _ _ _ _ _ _ _ _ _ _ _ _ _ _ _ _ _ _ _ _ _ _ _ _ _ _ _ _ _ _ _ _ _ _ _ _ _ _ _ _)
 clear h15
 cases o with
 | normal =>
  obtain ⟨⟨u58, u59, u60, u61, u62, u63, u64, u65, u66, u67, u68, u69, rfl⟩, hK⟩ := hpost
  have H9 := Lib.hid hK
  clear hK
  cases bad with
  | true =>
   have hres : recRead16 [f0, f1, f2, f3, f4, f5, f6, f7, f8, f9, f10, f11, f12, f13, f14, f15] = (PRec.zero, 70) := (rec16_3 (f := [f0, f1, f2, f3, f4, f5, f6, f7, f8, f9, f10, f11, f12, f13, f14, f15]) HT1.out hk1 hk2).trans (done_true HBAD.out)
   have HRES := Lib.hid hres
   clear hres
   go_wp2_with (first
     | (refine wpList_store_row rfl 62 _ _ rfl w.heap.size #[Value.int .i64 0, Value.string ⟨#[]⟩, Value.string ⟨#[]⟩, Value.int .i64 0] rfl rfl 62 #[Value.int .i64 0, Value.string ⟨#[]⟩, Value.string ⟨#[]⟩, Value.int .i64 0] H9.out.1 (by kernel_rfl) rfl (by simp [Value.oneCell']) ?_))
   exact bodyPost_ret (res_rec rfl rfl (setRow_heap _ _ _ _ _ _ H9.out.1)) rfl ⟨by first | (rw [HRES.out]; rfl) | (have h77 := HRES.out; rw [hk2] at h77; rw [h77]; rfl) | (rw [HRES.out, hk2]; rfl) | (rw [HRES.out]; simp only [hk2]; rfl), below_setRow H9.out.2.2.2.1 (Nat.le_refl _) _⟩
  | false =>
   have hres : recRead16 [f0, f1, f2, f3, f4, f5, f6, f7, f8, f9, f10, f11, f12, f13, f14, f15] = (⟨f0, key, ⟨#[]⟩, 0⟩, 0) := (rec16_3 (f := [f0, f1, f2, f3, f4, f5, f6, f7, f8, f9, f10, f11, f12, f13, f14, f15]) HT1.out hk1 hk2).trans (done_false HBAD.out)
   have HRES := Lib.hid hres
   clear hres
   go_wp2_with (first
     | (refine wpList_load_row rfl 62 _ rfl g rfl 62 #[Value.int .i64 f0, Value.string key, Value.string ⟨#[]⟩, Value.int .i64 0] (0, 0) _ H9.out.2.2.1 Try.underlying62 rfl (by kernel_rfl) ?_)
     | (refine wpList_store_row rfl 62 _ _ rfl w.heap.size #[Value.int .i64 f0, Value.string key, Value.string ⟨#[]⟩, Value.int .i64 0] rfl rfl 62 #[Value.int .i64 0, Value.string ⟨#[]⟩, Value.string ⟨#[]⟩, Value.int .i64 0] H9.out.1 (by kernel_rfl) rfl (by simp [Value.oneCell']) ?_))
   exact bodyPost_ret (res_rec rfl rfl (setRow_heap _ _ _ _ _ _ H9.out.1)) rfl ⟨by first | (rw [HRES.out]; rfl) | (have h77 := HRES.out; rw [hk2] at h77; rw [h77]; rfl) | (rw [HRES.out, hk2]; rfl) | (rw [HRES.out]; simp only [hk2]; rfl), below_setRow H9.out.2.2.2.1 (Nat.le_refl _) _⟩
 | _ => exact hpost.elim
end Go.Proofs.Ytliaemoomhfcdaa
namespace Go.Proofs.Ytliaemoomhfcdaa.NR
open Go.RowKit Go.Proofs.YtliaemoomhfcdaaW.PrintWords Go.Proofs.YtliaemoomhfcdaaW.PrintLast Go.Proofs.YtliaemoomhfcdaaW.PrintMore
attribute [local go_sem] max2_int min2_int max_two min_two max_three min_three max_four min_four   -- for this text's walks alone
set_option linter.unusedVariables false
set_option linter.unusedSimpArgs false
noncomputable section



def errW : Option Int → Value
  | none => .nilIface
  | some c => .iface 0 (.int .i64 c)
theorem errW_none : errW none = .nilIface := rfl
theorem errW_some (c : Int) : errW (some c) = .iface 0 (.int .i64 c) := rfl

theorem info3 : (Try.prog.info? 3).map (fun i => (i.zero, i.size, i.bytes)) = some (some (.int .i64 0), 1, 8) := by kernel_rfl
-- the values' own types
def rd_L1 (xs : List (List Int)) (i : Int) : (List Int) := xs.getD i.toNat ([] : List Int)
theorem at_L1 {w : World} {A : Option Addr} {n : Nat} {xs : List (List Int)} (h : Kd.C (Kd.slice 3 (Kd.int .i64)) w A n xs) (i : Int) (h0 : 0 ≤ i) (h1 : i < n) : ∃ ad A0 c0, A = some ad ∧ w.cell? (ad.add i.toNat) = some (.slice A0 (rd_L1 xs i).length c0) ∧ (rd_L1 xs i).length ≤ c0 ∧ (Kd.int .i64).C w A0 (rd_L1 xs i).length (rd_L1 xs i) := by
 obtain ⟨ad, c, e, _, hK, hc0⟩ := Kd.C_get h ([] : List Int) i h0 h1
 have hc : ∀ j u, c[j]? = some u → w.cell? (ad.add (i.toNat * 1 + j)) = some u := hc0
 obtain ⟨A0, c0, rfl, l0, g0⟩ := hK
 exact ⟨ad, A0, c0, e, by have hq := hc 0 _ rfl; rwa [Nat.mul_one, Nat.add_zero] at hq, l0, g0⟩

/-! #### struct type 24 -/
structure S24 where
  f0 : Int
  f1 : Int
  f2 : Int
  f3 : Int
  f4 : (List Int)
def z24 : S24 := ⟨(0 : Int), (0 : Int), (0 : Int), (0 : Int), ([] : List Int)⟩
def k24 : Kd S24 := Kd.iso (Kd.pair (Kd.int .i64) (Kd.pair (Kd.int .i64) (Kd.pair (Kd.int .i64) (Kd.pair (Kd.int .i64) (Kd.slice 3 (Kd.int .i64)))))) (fun x : S24 => (x.f0, x.f1, x.f2, x.f3, x.f4))
theorem k24_open {w : World} {x : S24} {cs : List Value} (h : k24.K w x cs) : ∃ A4 c4, cs = [.int .i64 x.f0, .int .i64 x.f1, .int .i64 x.f2, .int .i64 x.f3, .slice A4 x.f4.length c4] ∧ x.f4.length ≤ c4 ∧ (Kd.int .i64).C w A4 x.f4.length x.f4 := by
 obtain ⟨_, _, rfl, rfl, ⟨_, _, rfl, rfl, ⟨_, _, rfl, rfl, ⟨_, _, rfl, rfl, ⟨A4, c4, rfl, l4, g4⟩⟩⟩⟩⟩ := h
 exact ⟨A4, c4, rfl, l4, g4⟩
theorem k24_openM {w : World} {base : Nat} {ok : Nat → Prop} {x : S24} {cs : List Value} (h : k24.M w base ok x cs) : ∃ v4, cs = [.int .i64 x.f0, .int .i64 x.f1, .int .i64 x.f2, .int .i64 x.f3, v4] ∧ (Kd.int .i64).R 3 w base ok v4 x.f4 := by
 obtain ⟨_, _, rfl, rfl, ⟨_, _, rfl, rfl, ⟨_, _, rfl, rfl, ⟨_, _, rfl, rfl, ⟨v4, rfl, g4⟩⟩⟩⟩⟩ := h
 exact ⟨v4, rfl, g4⟩
theorem k24_mk (w : World) (x : S24) {A4 : Option Addr} {c4 : Nat} (l4 : x.f4.length ≤ c4) (g4 : (Kd.int .i64).C w A4 x.f4.length x.f4) : k24.K w x [.int .i64 x.f0, .int .i64 x.f1, .int .i64 x.f2, .int .i64 x.f3, .slice A4 x.f4.length c4] := ⟨[.int .i64 x.f0], [.int .i64 x.f1, .int .i64 x.f2, .int .i64 x.f3, .slice A4 x.f4.length c4], rfl, rfl, ⟨[.int .i64 x.f1], [.int .i64 x.f2, .int .i64 x.f3, .slice A4 x.f4.length c4], rfl, rfl, ⟨[.int .i64 x.f2], [.int .i64 x.f3, .slice A4 x.f4.length c4], rfl, rfl, ⟨[.int .i64 x.f3], [.slice A4 x.f4.length c4], rfl, rfl, ⟨A4, c4, rfl, l4, g4⟩⟩⟩⟩⟩
theorem k24_mkM (w : World) (base : Nat) (ok : Nat → Prop) (x : S24) {v4 : Value} (g4 : (Kd.int .i64).R 3 w base ok v4 x.f4) : k24.M w base ok x [.int .i64 x.f0, .int .i64 x.f1, .int .i64 x.f2, .int .i64 x.f3, v4] := ⟨[.int .i64 x.f0], [.int .i64 x.f1, .int .i64 x.f2, .int .i64 x.f3, v4], rfl, rfl, ⟨[.int .i64 x.f1], [.int .i64 x.f2, .int .i64 x.f3, v4], rfl, rfl, ⟨[.int .i64 x.f2], [.int .i64 x.f3, v4], rfl, rfl, ⟨[.int .i64 x.f3], [v4], rfl, rfl, ⟨v4, rfl, g4⟩⟩⟩⟩⟩
def rd_T24 (xs : List S24) (i : Int) : S24 := xs.getD i.toNat z24
theorem at_T24 {w : World} {A : Option Addr} {n : Nat} {xs : List S24} (h : Kd.C k24 w A n xs) (i : Int) (h0 : 0 ≤ i) (h1 : i < n) : ∃ ad A4 c4, A = some ad ∧ w.cell? (ad.add (i.toNat * 5)) = some (.int .i64 (rd_T24 xs i).f0) ∧ w.cell? ⟨(ad.add (i.toNat * 5)).block, (ad.add (i.toNat * 5)).off + 1, none⟩ = some (.int .i64 (rd_T24 xs i).f1) ∧ w.cell? ⟨(ad.add (i.toNat * 5)).block, (ad.add (i.toNat * 5)).off + 2, none⟩ = some (.int .i64 (rd_T24 xs i).f2) ∧ w.cell? ⟨(ad.add (i.toNat * 5)).block, (ad.add (i.toNat * 5)).off + 3, none⟩ = some (.int .i64 (rd_T24 xs i).f3) ∧ w.cell? ⟨(ad.add (i.toNat * 5)).block, (ad.add (i.toNat * 5)).off + 4, none⟩ = some (.slice A4 (rd_T24 xs i).f4.length c4) ∧ (rd_T24 xs i).f4.length ≤ c4 ∧ (Kd.int .i64).C w A4 (rd_T24 xs i).f4.length (rd_T24 xs i).f4 := by
 obtain ⟨ad, c, e, _, hK, hc0⟩ := Kd.C_get h z24 i h0 h1
 have hc : ∀ j u, c[j]? = some u → w.cell? (ad.add (i.toNat * 5 + j)) = some u := hc0
 obtain ⟨A4, c4, rfl, l4, g4⟩ := k24_open hK
 exact ⟨ad, A4, c4, e, hc 0 _ rfl, by rw [← add_field _ _ 1 (by omega)]; exact hc 1 _ rfl, by rw [← add_field _ _ 2 (by omega)]; exact hc 2 _ rfl, by rw [← add_field _ _ 3 (by omega)]; exact hc 3 _ rfl, by rw [← add_field _ _ 4 (by omega)]; exact hc 4 _ rfl, l4, g4⟩

end
end Go.Proofs.Ytliaemoomhfcdaa.NR
namespace Go.Proofs.Ytliaemoomhfcdaa.NR
open Go.RowKit Go.Proofs.YtliaemoomhfcdaaW.PrintWords Go.Proofs.YtliaemoomhfcdaaW.PrintLast Go.Proofs.YtliaemoomhfcdaaW.PrintMore
attribute [local go_sem] max2_int min2_int max_two min_two max_three min_three max_four min_four   -- for this text's walks alone
set_option linter.unusedVariables false
set_option linter.unusedSimpArgs false
noncomputable section

/-! ### slices_Equal_int_int: function 47 -/
def slices_Equal_int_int.l0 : Nat → List Int → List Int → Int → Int → Option (Bool)
  | 0, _, _, _, _ => none
  | k + 1, x0, x1, x12, x13 => if x13 < x12 then (if 0 ≤ x13 then (if x13 < (x0.length : Int) then (if x13 < (x1.length : Int) then (if (rd x0 x13) = (rd x1 x13) then (slices_Equal_int_int.l0 k x0 x1 x12 (wrap64 (x13 + 1))) else (some false)) else (none)) else (none)) else (none)) else (some true)
def slices_Equal_int_int.f (k : Nat) (l0 : List Int) (l1 : List Int) : Option (Bool) := if (l0.length : Int) = (l1.length : Int) then (slices_Equal_int_int.l0 k l0 l1 (l0.length : Int) 0) else (some false)
theorem slices_Equal_int_int.mono_l : ∀ k, (∀ y0 y1 y2 y3, LeO (slices_Equal_int_int.l0 k y0 y1 y2 y3) (slices_Equal_int_int.l0 (k + 1) y0 y1 y2 y3))
  | 0 => fun _ _ _ _ r h => by simp [slices_Equal_int_int.l0] at h
  | k + 1 => by
    have ih0 := slices_Equal_int_int.mono_l k
    · intro y0 y1 y2 y3
      unfold slices_Equal_int_int.l0
      repeat' first
      | (with_reducible exact ih0 _ _ _ _)
      | (with_reducible exact LeO.refl _)
      | (with_reducible exact LeO.none _)
      | (with_reducible refine LeO.ite ?_ ?_)
      | (with_reducible refine LeO.bind ?_ (fun _ => ?_))
      | exact ih0 _ _ _ _
      | exact LeO.none _
      | refine LeO.ite ?_ ?_
      | refine LeO.bind ?_ (fun _ => ?_)
theorem slices_Equal_int_int.mono : ∀ a0 a1 k, LeO (slices_Equal_int_int.f k a0 a1) (slices_Equal_int_int.f (k + 1) a0 a1) := by
 intro a0 a1 k
 have ih0 := slices_Equal_int_int.mono_l k
 unfold slices_Equal_int_int.f
 repeat' first
     | (with_reducible exact ih0 _ _ _ _)
     | (with_reducible exact LeO.refl _)
     | (with_reducible exact LeO.none _)
     | (with_reducible refine LeO.ite ?_ ?_)
     | (with_reducible refine LeO.bind ?_ (fun _ => ?_))
     | exact ih0 _ _ _ _
     | exact LeO.none _
     | refine LeO.ite ?_ ?_
     | refine LeO.bind ?_ (fun _ => ?_)
set_option maxHeartbeats 8000000 in
set_option maxRecDepth 100000 in
theorem slices_Equal_int_int.calls (k : Nat) (A0 : Option Addr) (c0 : Nat) (l0 : List Int) (A1 : Option Addr) (c1 : Nat) (l1 : List Int) (r : Bool) (w : World) (hr0 : Kd.C (Kd.int .i64) w A0 l0.length l0) (hc0 : l0.length ≤ c0) (hr1 : Kd.C (Kd.int .i64) w A1 l1.length l1) (hc1 : l1.length ≤ c1) (h : slices_Equal_int_int.f k l0 l1 = some r) :
    Calls Try.prog 47 #[.slice A0 l0.length c0, .slice A1 l1.length c1] w fun e w' => e = .returned (.bool r) ∧ Drawn0 w w' := by
 have HR0 := Aside0.mk hr0
 have HC0 := Aside0.mk hc0
 clear hr0 hc0
 have HR1 := Aside0.mk hr1
 have HC1 := Aside0.mk hc1
 clear hr1 hc1
 have H : (if (l0.length : Int) = (l1.length : Int) then (slices_Equal_int_int.l0 k l0 l1 (l0.length : Int) 0) else (some false)) = some r := h
 clear h
 by_cases c3 : (l0.length : Int) = (l1.length : Int)
 rotate_left
 · rw [if_neg c3] at H
   have c3b0 : ((l0.length : Int) == (l1.length : Int)) = false := beq_eq_false_iff_ne.mpr c3
   have c3b1 : ((l0.length : Int) != (l1.length : Int)) = true := bne_iff_ne.mpr c3
   have c3b2 : (l0.length == l1.length) = false := by first | simpa using c3 | (simp at c3 ⊢; omega)
   obtain rfl := Option.some.inj H
   go_enter Try.func47, Try.ntmps47
   go_wp2
   repeat (go_quiet (fail); try go_wp2)
   go_ret
   exact ⟨by first | rfl | (simp; done) | (simp [*]; done), by repeat (first | exact Drawn0.refl _ | apply Drawn0.step)⟩
 rw [if_pos c3] at H
 have c3b0 : ((l0.length : Int) == (l1.length : Int)) = true := beq_iff_eq.mpr c3
 have c3b1 : ((l0.length : Int) != (l1.length : Int)) = false := bne_eq_false_iff_eq.mpr c3
 have c3b2 : (l0.length == l1.length) = true := by first | simpa using c3 | (simp at c3 ⊢; omega)
 clear c3
 have H' := Aside0.mk H
 clear H
 go_enter Try.func47, Try.ntmps47
 go_wp2
 repeat (go_quiet (fail); try go_wp2)
 go_loopg [13] k (fun kq v13 w' => ∃ (x13_1 : Int), v13 = .int .i64 x13_1 ∧ Aside0 (slices_Equal_int_int.l0 kq l0 l1 (l0.length : Int) x13_1 = some r) ∧ Aside0 (kq ≤ k) ∧ Drawn0 w w')
 case atStart => exact ⟨(0), (by first | rfl | (simp; done) | (simp [*]; done)), H', ⟨Nat.le_refl _⟩, by repeat (first | exact Drawn0.refl _ | apply Drawn0.step)⟩
 case round =>
  clear H'
  try clear c1
  try clear p2
  try clear c3
  try clear c3b0
  try clear c3b1
  try clear c3b2
  obtain ⟨x13_1, rfl, HA, HK1, ⟨m1, rfl⟩⟩ := hrel
  cases gk with
  | zero => exact absurd HA.out (by simp [slices_Equal_int_int.l0])
  | succ k1 =>
   have H := HA.out
   clear HA
   simp only [slices_Equal_int_int.l0] at H
   by_cases c4 : x13_1 < (l0.length : Int)
   rotate_left
   · rw [if_neg c4] at H
     have c4b0 : decide (x13_1 < (l0.length : Int)) = false := decide_eq_false c4
     clear c4
     obtain rfl := Option.some.inj H
     go_wp2
     repeat (go_quiet (fail); try go_wp2)
     go_ret
     exact ⟨by first | rfl | (simp; done) | (simp [*]; done), by repeat (first | exact Drawn0.refl _ | apply Drawn0.step)⟩
   rw [if_pos c4] at H
   have c4b0 : decide (x13_1 < (l0.length : Int)) = true := decide_eq_true c4
   clear c4
   by_cases c5 : 0 ≤ x13_1
   rotate_left
   · rw [if_neg c5] at H
     exact absurd H (by simp)
   rw [if_pos c5] at H
   have c5b0 : decide (0 ≤ x13_1) = true := decide_eq_true c5
   clear c5
   by_cases c6 : x13_1 < (l0.length : Int)
   rotate_left
   · rw [if_neg c6] at H
     exact absurd H (by simp)
   rw [if_pos c6] at H
   have c6b0 : decide (x13_1 < (l0.length : Int)) = true := decide_eq_true c6
   clear c6
   by_cases c7 : x13_1 < (l1.length : Int)
   rotate_left
   · rw [if_neg c7] at H
     exact absurd H (by simp)
   rw [if_pos c7] at H
   have c7b0 : decide (x13_1 < (l1.length : Int)) = true := decide_eq_true c7
   clear c7
   by_cases c8 : (rd l0 x13_1) = (rd l1 x13_1)
   · rw [if_pos c8] at H
     have c8b0 : ((rd l0 x13_1) == (rd l1 x13_1)) = true := beq_iff_eq.mpr c8
     have c8b1 : ((rd l0 x13_1) != (rd l1 x13_1)) = false := bne_eq_false_iff_eq.mpr c8
     clear c8
     have H' := Aside0.mk H
     clear H
     have p101 : 0 ≤ (x13_1 : Int) := of_decide_eq_true (by first | (with_reducible assumption) | assumption)
     have q101 : x13_1 < (l0.length : Int) := of_decide_eq_true (by first | (with_reducible assumption) | assumption)
     obtain ⟨ad101, e101, hx101_0⟩ := Kd.at_int HR0.out x13_1 p101 q101
     cases e101
     replace p101 := eq_true p101
     replace q101 := eq_true q101
     have p102 : 0 ≤ (x13_1 : Int) := of_decide_eq_true (by first | (with_reducible assumption) | assumption)
     have q102 : x13_1 < (l1.length : Int) := of_decide_eq_true (by first | (with_reducible assumption) | assumption)
     obtain ⟨ad102, e102, hx102_0⟩ := Kd.at_int HR1.out x13_1 p102 q102
     cases e102
     replace p102 := eq_true p102
     replace q102 := eq_true q102
     go_wp2
     repeat (go_quiet (fail); try go_wp2)
     go_roundg k1
     case measure => have := HK1.out; omega
     case rel => exact ⟨(wrap64 (x13_1 + 1)), (by first | rfl | (simp; done) | (simp [*]; done)), H', ⟨by have := HK1.out; omega⟩, by repeat (first | exact Drawn0.refl _ | apply Drawn0.step)⟩
   rw [if_neg c8] at H
   have c8b0 : ((rd l0 x13_1) == (rd l1 x13_1)) = false := beq_eq_false_iff_ne.mpr c8
   have c8b1 : ((rd l0 x13_1) != (rd l1 x13_1)) = true := bne_iff_ne.mpr c8
   obtain rfl := Option.some.inj H
   have p101 : 0 ≤ (x13_1 : Int) := of_decide_eq_true (by first | (with_reducible assumption) | assumption)
   have q101 : x13_1 < (l0.length : Int) := of_decide_eq_true (by first | (with_reducible assumption) | assumption)
   obtain ⟨ad101, e101, hx101_0⟩ := Kd.at_int HR0.out x13_1 p101 q101
   cases e101
   replace p101 := eq_true p101
   replace q101 := eq_true q101
   have p102 : 0 ≤ (x13_1 : Int) := of_decide_eq_true (by first | (with_reducible assumption) | assumption)
   have q102 : x13_1 < (l1.length : Int) := of_decide_eq_true (by first | (with_reducible assumption) | assumption)
   obtain ⟨ad102, e102, hx102_0⟩ := Kd.at_int HR1.out x13_1 p102 q102
   cases e102
   replace p102 := eq_true p102
   replace q102 := eq_true q102
   go_wp2
   repeat (go_quiet (fail); try go_wp2)
   go_ret
   exact ⟨by first | rfl | (simp; done) | (simp [*]; done), by repeat (first | exact Drawn0.refl _ | apply Drawn0.step)⟩

end
end Go.Proofs.Ytliaemoomhfcdaa.NR
namespace Go.Proofs.Ytliaemoomhfcdaa.NR
open Go.RowKit Go.Proofs.YtliaemoomhfcdaaW.PrintWords Go.Proofs.YtliaemoomhfcdaaW.PrintLast Go.Proofs.YtliaemoomhfcdaaW.PrintMore
set_option linter.unusedVariables false
set_option linter.unusedSimpArgs false
noncomputable section

/-- A node's slots, of the block that begins with the words. -/
def fast_Slots.f (l0 : List Int) (a1 : Int) : Option (List Int) := if a1 = 0 ∧ 16 ≤ l0.length ∧ l0.length ≤ 1000000000 then some (slotsOf l0 0) else none
theorem fast_Slots.calls (A0 : Option Addr) (c0 : Nat) (l0 : List Int) (a1 : Int) (r : List Int) (w : World) (hr0 : Kd.C (Kd.int .i64) w A0 l0.length l0) (hc0 : l0.length ≤ c0) (h : fast_Slots.f l0 a1 = some r) :
    Calls Try.prog 45 #[.slice A0 l0.length c0, .int .i64 a1] w fun e w' => ∃ v0_ : Value, e = .returned (v0_) ∧ Kd.R (Kd.int .i64) 3 w' w.heap.size (fun _ => True) v0_ r ∧ Below w.heap.size w w' := by
 unfold fast_Slots.f at h
 split at h
 · rename_i hs
   obtain ⟨rfl, h16, hn⟩ := hs
   injection h with h
   subst h
   refine (slots_any A0 l0.length c0 l0 w (RI_of_C hr0) hn hc0 h16).mono ?_
   rintro e w' ⟨v, rfl, ho, hb⟩
   exact ⟨v, rfl, R_of_ints ho, hb⟩
 cases h
/-- A node's words. -/
def node_Words.f (a0 a1 a2 a3 : Int) (l4 : List Int) : Option (List Int × Int) :=
  if l4.length ≤ 1000000000 then some (if nodeOk a0 a1 a2 a3 l4 then (nodeWords a0 a1 a2 a3 l4, 0) else ([], 90)) else none
theorem node_Words.calls (a0 a1 a2 a3 : Int) (A4 : Option Addr) (c4 : Nat) (l4 : List Int) (r1 : List Int) (r2 : Int) (w : World) (hr4 : Kd.C (Kd.int .i64) w A4 l4.length l4) (hc4 : l4.length ≤ c4) (h : node_Words.f a0 a1 a2 a3 l4 = some (r1, r2)) :
    Calls Try.prog 46 #[.agg #[.int .i64 a0, .int .i64 a1, .int .i64 a2, .int .i64 a3, .slice A4 l4.length c4]] w fun e w' => ∃ v0_ : Value, e = .returned (.tuple #[v0_, .int .i64 r2]) ∧ Kd.R (Kd.int .i64) 3 w' w.heap.size (fun _ => True) v0_ r1 ∧ Below w.heap.size w w' := by
 unfold node_Words.f at h
 split at h
 · rename_i hs
   injection h with h
   cases hok : nodeOk a0 a1 a2 a3 l4 with
   | true =>
    rw [hok, if_pos rfl] at h
    injection h with h1 h2
    subst h1 h2
    refine (nodeWords_any a0 a1 a2 a3 A4 l4.length c4 l4 w (RI_of_C hr4) hs hok).mono ?_
    rintro e w' ⟨v, rfl, ho, hb⟩
    exact ⟨v, rfl, R_of_ints ho, hb⟩
   | false =>
    rw [hok, if_neg (by simp)] at h
    injection h with h1 h2
    subst h1 h2
    refine (nodeWords_bad a0 a1 a2 a3 A4 l4.length c4 l4 w (RI_of_C hr4) hs hok).mono ?_
    rintro e w' ⟨v, rfl, ho, hb⟩
    exact ⟨v, rfl, R_of_ints ho, hb⟩
 cases h
end
end Go.Proofs.Ytliaemoomhfcdaa.NR
