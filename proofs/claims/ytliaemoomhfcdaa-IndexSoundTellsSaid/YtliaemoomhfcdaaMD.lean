/- Several texts of this seat, joined: IDx0, GivenID, IDx1, Look, DownW, FindW, FindP, AWx0, GivenAW, AWx1. -/
import Derived.Test.YtliaemoomhfcdaaMQ
import Derived.Test.YtliaemoomhfcdaaProg
import Derived.Below
import Derived.Deep.Draws
import Derived.Deep.AppendLies
import Derived.Maps.AppendAt
import Derived.OwnWalk
import Derived.Laws.BytesArg
import Derived.Laws.MakeOwn
import Derived.Laws.OwnMore
import Derived.Deep.OwnRows
import Derived.Tactics
import Derived.Lib.ConvBytes
import Derived.Laws.Slices
import Derived.WalkKit
import Derived.KernelRfl
import Derived.RowKit3
import Derived.Deep.LoopGhost
import Derived.Deep.QuietTactic
import Derived.BigQuiet
import Derived.WideLaws
import Derived.Deep.DeepCutAuto
import Derived.Deep.CutBlock
import Derived.Deep.RegionHeld3
import Derived.Laws.Rows
import Derived.Lib.AppendStr
import Derived.ArgAppend
import Derived.Laws.IdiomCopy
import Derived.OrdersHeld
import Derived.Laws.BitsLemmas
import Derived.RowKit
import Derived.Test.YtliaemoomhfcdaaMW
import Derived.Test.YtliaemoomhfcdaaMC
import Derived.Test.YtliaemoomhfcdaaMA
import Derived.Outline
import Derived.ScopeJumps
namespace Go.Proofs.Ytliaemoomhfcdaa.ID
open Go.RowKit Go.Proofs.YtliaemoomhfcdaaW.PrintWords Go.Proofs.YtliaemoomhfcdaaW.PrintLast Go.Proofs.YtliaemoomhfcdaaW.PrintMore
attribute [local go_sem] max2_int min2_int max_two min_two max_three min_three max_four min_four   -- for this text's walks alone
set_option linter.unusedVariables false
set_option linter.unusedSimpArgs false
noncomputable section



def errW : Option Int → Value
  | none => .nilIface
  | some c => .iface 0 (.int .i64 c)
theorem errW_none : errW none = .nilIface := rfl
theorem errW_some (c : Int) : errW (some c) = .iface 0 (.int .i64 c) := rfl

-- the values' own types
def rd_L1 (xs : List (List Int)) (i : Int) : (List Int) := xs.getD i.toNat ([] : List Int)
theorem at_L1 {w : World} {A : Option Addr} {n : Nat} {xs : List (List Int)} (h : Kd.C (Kd.slice 3 (Kd.int .i64)) w A n xs) (i : Int) (h0 : 0 ≤ i) (h1 : i < n) : ∃ ad A0 c0, A = some ad ∧ w.cell? (ad.add i.toNat) = some (.slice A0 (rd_L1 xs i).length c0) ∧ (rd_L1 xs i).length ≤ c0 ∧ (Kd.int .i64).C w A0 (rd_L1 xs i).length (rd_L1 xs i) := by
 obtain ⟨ad, c, e, _, hK, hc0⟩ := Kd.C_get h ([] : List Int) i h0 h1
 have hc : ∀ j u, c[j]? = some u → w.cell? (ad.add (i.toNat * 1 + j)) = some u := hc0
 obtain ⟨A0, c0, rfl, l0, g0⟩ := hK
 exact ⟨ad, A0, c0, e, by have hq := hc 0 _ rfl; rwa [Nat.mul_one, Nat.add_zero] at hq, l0, g0⟩

/-! #### struct type 24 -/
structure S24 where
  f0 : Int
  f1 : Int
  f2 : Int
  f3 : Int
  f4 : (List Int)
def z24 : S24 := ⟨(0 : Int), (0 : Int), (0 : Int), (0 : Int), ([] : List Int)⟩
def k24 : Kd S24 := Kd.iso (Kd.pair (Kd.int .i64) (Kd.pair (Kd.int .i64) (Kd.pair (Kd.int .i64) (Kd.pair (Kd.int .i64) (Kd.slice 3 (Kd.int .i64)))))) (fun x : S24 => (x.f0, x.f1, x.f2, x.f3, x.f4))
theorem k24_open {w : World} {x : S24} {cs : List Value} (h : k24.K w x cs) : ∃ A4 c4, cs = [.int .i64 x.f0, .int .i64 x.f1, .int .i64 x.f2, .int .i64 x.f3, .slice A4 x.f4.length c4] ∧ x.f4.length ≤ c4 ∧ (Kd.int .i64).C w A4 x.f4.length x.f4 := by
 obtain ⟨_, _, rfl, rfl, ⟨_, _, rfl, rfl, ⟨_, _, rfl, rfl, ⟨_, _, rfl, rfl, ⟨A4, c4, rfl, l4, g4⟩⟩⟩⟩⟩ := h
 exact ⟨A4, c4, rfl, l4, g4⟩
theorem k24_openM {w : World} {base : Nat} {ok : Nat → Prop} {x : S24} {cs : List Value} (h : k24.M w base ok x cs) : ∃ v4, cs = [.int .i64 x.f0, .int .i64 x.f1, .int .i64 x.f2, .int .i64 x.f3, v4] ∧ (Kd.int .i64).R 3 w base ok v4 x.f4 := by
 obtain ⟨_, _, rfl, rfl, ⟨_, _, rfl, rfl, ⟨_, _, rfl, rfl, ⟨_, _, rfl, rfl, ⟨v4, rfl, g4⟩⟩⟩⟩⟩ := h
 exact ⟨v4, rfl, g4⟩
theorem k24_mk (w : World) (x : S24) {A4 : Option Addr} {c4 : Nat} (l4 : x.f4.length ≤ c4) (g4 : (Kd.int .i64).C w A4 x.f4.length x.f4) : k24.K w x [.int .i64 x.f0, .int .i64 x.f1, .int .i64 x.f2, .int .i64 x.f3, .slice A4 x.f4.length c4] := ⟨[.int .i64 x.f0], [.int .i64 x.f1, .int .i64 x.f2, .int .i64 x.f3, .slice A4 x.f4.length c4], rfl, rfl, ⟨[.int .i64 x.f1], [.int .i64 x.f2, .int .i64 x.f3, .slice A4 x.f4.length c4], rfl, rfl, ⟨[.int .i64 x.f2], [.int .i64 x.f3, .slice A4 x.f4.length c4], rfl, rfl, ⟨[.int .i64 x.f3], [.slice A4 x.f4.length c4], rfl, rfl, ⟨A4, c4, rfl, l4, g4⟩⟩⟩⟩⟩
theorem k24_mkM (w : World) (base : Nat) (ok : Nat → Prop) (x : S24) {v4 : Value} (g4 : (Kd.int .i64).R 3 w base ok v4 x.f4) : k24.M w base ok x [.int .i64 x.f0, .int .i64 x.f1, .int .i64 x.f2, .int .i64 x.f3, v4] := ⟨[.int .i64 x.f0], [.int .i64 x.f1, .int .i64 x.f2, .int .i64 x.f3, v4], rfl, rfl, ⟨[.int .i64 x.f1], [.int .i64 x.f2, .int .i64 x.f3, v4], rfl, rfl, ⟨[.int .i64 x.f2], [.int .i64 x.f3, v4], rfl, rfl, ⟨[.int .i64 x.f3], [v4], rfl, rfl, ⟨v4, rfl, g4⟩⟩⟩⟩⟩
def rd_T24 (xs : List S24) (i : Int) : S24 := xs.getD i.toNat z24
theorem at_T24 {w : World} {A : Option Addr} {n : Nat} {xs : List S24} (h : Kd.C k24 w A n xs) (i : Int) (h0 : 0 ≤ i) (h1 : i < n) : ∃ ad A4 c4, A = some ad ∧ w.cell? (ad.add (i.toNat * 5)) = some (.int .i64 (rd_T24 xs i).f0) ∧ w.cell? ⟨(ad.add (i.toNat * 5)).block, (ad.add (i.toNat * 5)).off + 1, none⟩ = some (.int .i64 (rd_T24 xs i).f1) ∧ w.cell? ⟨(ad.add (i.toNat * 5)).block, (ad.add (i.toNat * 5)).off + 2, none⟩ = some (.int .i64 (rd_T24 xs i).f2) ∧ w.cell? ⟨(ad.add (i.toNat * 5)).block, (ad.add (i.toNat * 5)).off + 3, none⟩ = some (.int .i64 (rd_T24 xs i).f3) ∧ w.cell? ⟨(ad.add (i.toNat * 5)).block, (ad.add (i.toNat * 5)).off + 4, none⟩ = some (.slice A4 (rd_T24 xs i).f4.length c4) ∧ (rd_T24 xs i).f4.length ≤ c4 ∧ (Kd.int .i64).C w A4 (rd_T24 xs i).f4.length (rd_T24 xs i).f4 := by
 obtain ⟨ad, c, e, _, hK, hc0⟩ := Kd.C_get h z24 i h0 h1
 have hc : ∀ j u, c[j]? = some u → w.cell? (ad.add (i.toNat * 5 + j)) = some u := hc0
 obtain ⟨A4, c4, rfl, l4, g4⟩ := k24_open hK
 exact ⟨ad, A4, c4, e, hc 0 _ rfl, by rw [← add_field _ _ 1 (by omega)]; exact hc 1 _ rfl, by rw [← add_field _ _ 2 (by omega)]; exact hc 2 _ rfl, by rw [← add_field _ _ 3 (by omega)]; exact hc 3 _ rfl, by rw [← add_field _ _ 4 (by omega)]; exact hc 4 _ rfl, l4, g4⟩

/-! #### struct type 62 -/
structure S62 where
  f0 : Int
  f1 : ByteArray
  f2 : ByteArray
  f3 : Int
def z62 : S62 := ⟨(0 : Int), (⟨#[]⟩ : ByteArray), (⟨#[]⟩ : ByteArray), (0 : Int)⟩
def k62 : Kd S62 := Kd.iso (Kd.pair (Kd.int .i64) (Kd.pair Kd.string (Kd.pair Kd.string (Kd.int .i64)))) (fun x : S62 => (x.f0, x.f1, x.f2, x.f3))
theorem k62_open {w : World} {x : S62} {cs : List Value} (h : k62.K w x cs) : cs = [.int .i64 x.f0, .string x.f1, .string x.f2, .int .i64 x.f3] := by
 obtain ⟨_, _, rfl, rfl, ⟨_, _, rfl, rfl, ⟨_, _, rfl, rfl, rfl⟩⟩⟩ := h
 exact rfl
theorem k62_openM {w : World} {base : Nat} {ok : Nat → Prop} {x : S62} {cs : List Value} (h : k62.M w base ok x cs) : cs = [.int .i64 x.f0, .string x.f1, .string x.f2, .int .i64 x.f3] := by
 obtain ⟨_, _, rfl, rfl, ⟨_, _, rfl, rfl, ⟨_, _, rfl, rfl, rfl⟩⟩⟩ := h
 exact rfl
theorem k62_mk (w : World) (x : S62)  : k62.K w x [.int .i64 x.f0, .string x.f1, .string x.f2, .int .i64 x.f3] := ⟨[.int .i64 x.f0], [.string x.f1, .string x.f2, .int .i64 x.f3], rfl, rfl, ⟨[.string x.f1], [.string x.f2, .int .i64 x.f3], rfl, rfl, ⟨[.string x.f2], [.int .i64 x.f3], rfl, rfl, rfl⟩⟩⟩
theorem k62_mkM (w : World) (base : Nat) (ok : Nat → Prop) (x : S62)  : k62.M w base ok x [.int .i64 x.f0, .string x.f1, .string x.f2, .int .i64 x.f3] := ⟨[.int .i64 x.f0], [.string x.f1, .string x.f2, .int .i64 x.f3], rfl, rfl, ⟨[.string x.f1], [.string x.f2, .int .i64 x.f3], rfl, rfl, ⟨[.string x.f2], [.int .i64 x.f3], rfl, rfl, rfl⟩⟩⟩
def rd_T62 (xs : List S62) (i : Int) : S62 := xs.getD i.toNat z62
theorem at_T62 {w : World} {A : Option Addr} {n : Nat} {xs : List S62} (h : Kd.C k62 w A n xs) (i : Int) (h0 : 0 ≤ i) (h1 : i < n) : ∃ ad , A = some ad ∧ w.cell? (ad.add (i.toNat * 4)) = some (.int .i64 (rd_T62 xs i).f0) ∧ w.cell? ⟨(ad.add (i.toNat * 4)).block, (ad.add (i.toNat * 4)).off + 1, none⟩ = some (.string (rd_T62 xs i).f1) ∧ w.cell? ⟨(ad.add (i.toNat * 4)).block, (ad.add (i.toNat * 4)).off + 2, none⟩ = some (.string (rd_T62 xs i).f2) ∧ w.cell? ⟨(ad.add (i.toNat * 4)).block, (ad.add (i.toNat * 4)).off + 3, none⟩ = some (.int .i64 (rd_T62 xs i).f3) := by
 obtain ⟨ad, c, e, _, hK, hc0⟩ := Kd.C_get h z62 i h0 h1
 have hc : ∀ j u, c[j]? = some u → w.cell? (ad.add (i.toNat * 4 + j)) = some u := hc0
 obtain rfl := k62_open hK
 exact ⟨ad, e, hc 0 _ rfl, by rw [← add_field _ _ 1 (by omega)]; exact hc 1 _ rfl, by rw [← add_field _ _ 2 (by omega)]; exact hc 2 _ rfl, by rw [← add_field _ _ 3 (by omega)]; exact hc 3 _ rfl⟩

end
end Go.Proofs.Ytliaemoomhfcdaa.ID
namespace Go.Proofs.Ytliaemoomhfcdaa.ID
open Go.RowKit Go.Proofs.YtliaemoomhfcdaaW.PrintWords Go.Proofs.YtliaemoomhfcdaaW.PrintLast Go.Proofs.YtliaemoomhfcdaaW.PrintMore
set_option linter.unusedVariables false
set_option linter.unusedSimpArgs false
noncomputable section

def rec_Read.f (l0 : List Int) (a1 : Int) : Option (Int × ByteArray × ByteArray × Int × Int) :=
  if l0.length ≤ 1000000000 then some ((recRead l0 a1).1.kind, (recRead l0 a1).1.key, (recRead l0 a1).1.val, (recRead l0 a1).1.child, (recRead l0 a1).2) else none
theorem rec_Read.calls (A0 : Option Addr) (c0 : Nat) (l0 : List Int) (a1 : Int) (r1 : Int) (r2 r3 : ByteArray) (r4 r5 : Int) (w : World) (hr0 : Kd.C (Kd.int .i64) w A0 l0.length l0) (hc0 : l0.length ≤ c0) (h : rec_Read.f l0 a1 = some (r1, r2, r3, r4, r5)) :
    Calls Try.prog 44 #[.slice A0 l0.length c0, .int .i64 a1] w fun e w' => e = .returned (.tuple #[.agg #[.int .i64 r1, .string r2, .string r3, .int .i64 r4], .int .i64 r5]) ∧ Below w.heap.size w w' := by
 unfold rec_Read.f at h
 split at h
 · rename_i hs
   simp only [Option.some.injEq, Prod.mk.injEq] at h
   obtain ⟨rfl, rfl, rfl, rfl, rfl⟩ := h
   exact recRead_any A0 c0 l0 a1 w hr0 hc0 hs
 cases h
def node_Read.f (l0 : List Int) (a1 : Int) : Option (Int × Int × Int × Int × List Int × Int) :=
  if l0.length ≤ 1000000000 then some (PNode.flat (nodeRead l0 a1)) else none
theorem node_Read.calls (A0 : Option Addr) (c0 : Nat) (l0 : List Int) (a1 : Int) (r1 r2 r3 r4 : Int) (r5 : List Int) (r6 : Int) (w : World) (hr0 : Kd.C (Kd.int .i64) w A0 l0.length l0) (hc0 : l0.length ≤ c0) (h : node_Read.f l0 a1 = some (r1, r2, r3, r4, r5, r6)) :
    Calls Try.prog 21 #[.slice A0 l0.length c0, .int .i64 a1] w fun e w' => ∃ v4_ : Value, e = .returned (.tuple #[.agg #[.int .i64 r1, .int .i64 r2, .int .i64 r3, .int .i64 r4, v4_], .int .i64 r6]) ∧ Kd.R (Kd.int .i64) 3 w' w.heap.size (fun _ => True) v4_ r5 ∧ Below w.heap.size w w' := by
 unfold node_Read.f at h
 split at h
 · rename_i hs
   simp only [PNode.flat, Option.some.injEq, Prod.mk.injEq] at h
   obtain ⟨rfl, rfl, rfl, rfl, rfl, rfl⟩ := h
   exact nodeRead_any A0 c0 l0 a1 w hr0 hc0 hs
 cases h
def arena_Low.f (l0 : List Int) (a1 : Int) : Option (ByteArray × Int) := if l0.length ≤ 1000000000 then some (lowRead l0 a1) else none
theorem arena_Low.calls (A0 : Option Addr) (c0 : Nat) (l0 : List Int) (a1 : Int) (r1 : ByteArray) (r2 : Int) (w : World) (hr0 : Kd.C (Kd.int .i64) w A0 l0.length l0) (hc0 : l0.length ≤ c0) (h : arena_Low.f l0 a1 = some (r1, r2)) :
    Calls Try.prog 22 #[.slice A0 l0.length c0, .int .i64 a1] w fun e w' => e = .returned (.tuple #[.string r1, .int .i64 r2]) ∧ Below w.heap.size w w' := by
 unfold arena_Low.f at h
 split at h
 · rename_i hs
   injection h with h
   have h1 : (lowRead l0 a1).1 = r1 := by rw [h]
   have h2 : (lowRead l0 a1).2 = r2 := by rw [h]
   subst h1 h2
   exact arenaLow_any A0 c0 l0 a1 w hr0 hc0 hs
 cases h
end
end Go.Proofs.Ytliaemoomhfcdaa.ID
namespace Go.Proofs.Ytliaemoomhfcdaa.ID
attribute [local go_sem] Go.Proofs.Ytliaemoomhfcdaa.le_flip
open Go.RowKit Go.Proofs.YtliaemoomhfcdaaW.PrintWords Go.Proofs.YtliaemoomhfcdaaW.PrintLast Go.Proofs.YtliaemoomhfcdaaW.PrintMore
attribute [local go_sem] max2_int min2_int max_two min_two max_three min_three max_four min_four   -- for this text's walks alone
set_option linter.unusedVariables false
set_option linter.unusedSimpArgs false
noncomputable section

/-! ### index_from: function 39 -/
def index_from.f (l0 : List Int) (a1 : Int) : Option (Int × ByteArray × Bool) := (node_Read.f l0 a1).bind fun bt101 => (if bt101.2.2.2.2.2 = 0 then ((arena_Low.f l0 a1).bind fun bt110 => (some (bt101.1, bt110.1, (bt110.2 == 0)))) else (some (0, (⟨#[]⟩ : ByteArray), false)))
set_option maxHeartbeats 8000000 in
set_option maxRecDepth 100000 in
theorem index_from.calls (A0 : Option Addr) (c0 : Nat) (l0 : List Int) (a1 : Int) (r1 : Int) (r2 : ByteArray) (r3 : Bool) (w : World) (hr0 : Kd.C (Kd.int .i64) w A0 l0.length l0) (hc0 : l0.length ≤ c0) (h : index_from.f l0 a1 = some (r1, r2, r3)) :
    Calls Try.prog 39 #[.slice A0 l0.length c0, .int .i64 a1] w fun e w' => e = .returned (.tuple #[.int .i64 r1, .string r2, .bool r3]) ∧ Below w.heap.size w w' := by
 have hu24 := Try.underlying24
 have HR0 := Aside0.mk hr0
 have HC0 := Aside0.mk hc0
 clear hr0 hc0
 have HB := Aside0.mk (Below.refl w.heap.size w)
 have H : ((node_Read.f l0 a1).bind fun bt101 => (if bt101.2.2.2.2.2 = 0 then ((arena_Low.f l0 a1).bind fun bt110 => (some (bt101.1, bt110.1, (bt110.2 == 0)))) else (some (0, (⟨#[]⟩ : ByteArray), false)))) = some (r1, r2, r3) := h
 clear h
 replace H := Option.bind_eq_some_iff.mp H
 obtain ⟨⟨t101, t102, t103, t104, t105, t108⟩, A30, H⟩ := H
 try dsimp only at H
 have A3 := Aside0.mk A30
 clear A30
 by_cases c4 : t108 = 0
 rw [if_pos c4] at H
 have c4b0 : (t108 == 0) = true := beq_iff_eq.mpr c4
 have c4b1 : (t108 != 0) = false := bne_eq_false_iff_eq.mpr c4
 clear c4
 replace H := Option.bind_eq_some_iff.mp H
 obtain ⟨⟨tv1, tv2⟩, Av1, H⟩ := H
 replace H : (some (t101, tv1, (tv2 == 0))) = some (r1, r2, r3) := H
 have Av2 := Aside0.mk Av1
 clear Av1
 simp only [Option.some.injEq, Prod.mk.injEq] at H
 obtain ⟨rfl, rfl, rfl⟩ := H
 focus go_enter Try.func39, Try.ntmps39
 focus go_wp2_with (first | ((with_reducible refine gate_callee (f := 21) rfl ?_); refine goesL_ (some 12) rfl rfl Try.func21 (by kernel_rfl) rfl #[.slice A0 l0.length c0, .int .i64 a1] rfl qm_ ?_; (with_reducible refine (node_Read.calls _ _ l0 a1 t101 t102 t103 t104 t105 t108 _ ?side1 ?side2 A3.out).mono ?_); (case side1 => repeat (first | exact HR0.out | (with_reducible refine Kd.C_alloc ?_ _) | (with_reducible refine Kd.C_drewN ?_ _) | (with_reducible refine Kd.C_drew ?_))); (case side2 => exact HC0.out); rintro e wv1 ⟨vv1, rfl, hov1, hb⟩; refine ⟨_, rfl, ?_⟩; have n0_ := Aside0.mk (Kd.R_lower hov1 (below_size qh_)); have n1_ := Aside0.mk (below_step qh_ hb); clear HB; have HOv1 := n0_; have HB := n1_; clear n0_ n1_; (try clear hb); (try clear hbv1); (try clear hk); (try clear hi); (try clear hov1)) | ((with_reducible refine gate_dst (N := 7) rfl ?_); refine box_event ?hg (N := 7) ?hd (cs := #[.int .i64 0, .int .i64 0, .int .i64 0, .int .i64 0, .slice none 0 0]) (t := 24) ?hr ?_; (case hd => rfl); (case hg => rfl); (case hr => first | (go_simp; done) | (go_simp; rfl)); intro gbv1 hg wv2 hbox hb; have n0_ := Aside0.mk (Kd.R_below (qr_ HOv1.out) hb); have n1_ := Aside0.mk (below_step qh_ hb); have n2_ := Aside0.mk (hbox); have n3_ := Aside0.mk ((by rw [hg]; exact (below_size qh_) : w.heap.size ≤ gbv1)); have n4_ := Aside0.mk ((by rw [hg]; exact (below_size qh_) : w.heap.size ≤ gbv1)); clear HOv1; clear HB; have HOv1 := n0_; have HB := n1_; have BKv1 := n2_; have GWv1 := n3_; have GEv1 := n4_; clear n0_ n1_ n2_ n3_ n4_; clear hb hbox hg; have hczv1 : wv2.cell? ⟨gbv1, 0, none⟩ = some (.int .i64 0) := (blk_cell BKv1.out 0).trans rfl; have hczv2 : wv2.cell? ⟨gbv1, 1, none⟩ = some (.int .i64 0) := (blk_cell BKv1.out 1).trans rfl; have hczv3 : wv2.cell? ⟨gbv1, 2, none⟩ = some (.int .i64 0) := (blk_cell BKv1.out 2).trans rfl; have hczv4 : wv2.cell? ⟨gbv1, 3, none⟩ = some (.int .i64 0) := (blk_cell BKv1.out 3).trans rfl; have hczv5 : wv2.cell? ⟨gbv1, 4, none⟩ = some (.slice none 0 0) := (blk_cell BKv1.out 4).trans rfl; have hfzv1 := blk_frozen BKv1.out 0; have hfzv2 := blk_frozen BKv1.out 1; have hfzv3 := blk_frozen BKv1.out 2; have hfzv4 := blk_frozen BKv1.out 3; have hfzv5 := blk_frozen BKv1.out 4; obtain ⟨Aov1, cov1, eov1⟩ := Kd.R_slice HOv1.out; subst eov1) | ((with_reducible refine gate_callee (f := 22) rfl ?_); refine goesL_ (some 20) rfl rfl Try.func22 (by kernel_rfl) rfl #[.slice A0 l0.length c0, .int .i64 a1] rfl qm_ ?_; (with_reducible refine (arena_Low.calls _ _ l0 a1 tv1 tv2 _ ?side1 ?side2 Av2.out).mono ?_); (case side1 => exact Kd.C_below HR0.out (qg1_ GEv1.out)); (case side2 => exact HC0.out); rintro e wv3 ⟨rfl, hb⟩; refine ⟨_, rfl, ?_⟩; have n0_ := Aside0.mk (Kd.R_below (by (with_reducible repeat (first | apply Kd.R_alloc | apply Kd.R_drewN | apply Kd.R_drew)); exact (Kd.R_mono (Kd.R_far (p := ⟨gbv1, 4, none⟩) (Kd.R_far (p := ⟨gbv1, 3, none⟩) (Kd.R_far (p := ⟨gbv1, 2, none⟩) (Kd.R_far (p := ⟨gbv1, 1, none⟩) (Kd.R_far (p := ⟨gbv1, 0, none⟩) (Kd.R_types HOv1.out BKv1.out (by decide)) (fun _ hk => hk.2) (.int .i64 t101)) (fun _ hk => hk.2) (.int .i64 t102)) (fun _ hk => hk.2) (.int .i64 t103)) (fun _ hk => hk.2) (.int .i64 t104)) (fun _ hk => hk.2) (.slice Aov1 t105.length cov1)) (fun _ h_ => h_.1))) hb); have n1_ := Aside0.mk (blk_below (g := gbv1) (o := .cells #[.int .i64 t101, .int .i64 t102, .int .i64 t103, .int .i64 t104, .slice Aov1 t105.length cov1] 24 (0, 0)) (by (with_reducible repeat (first | refine blk_drewN ?_ _ | refine blk_drew ?_ | refine blk_alloc ?_ _)); refine blk_put (cs := #[.int .i64 t101, .int .i64 t102, .int .i64 t103, .int .i64 t104, .slice none 0 0]) ?_ 4 _ rfl; (with_reducible repeat (first | refine blk_drewN ?_ _ | refine blk_drew ?_ | refine blk_alloc ?_ _)); refine blk_put (cs := #[.int .i64 t101, .int .i64 t102, .int .i64 t103, .int .i64 0, .slice none 0 0]) ?_ 3 _ rfl; (with_reducible repeat (first | refine blk_drewN ?_ _ | refine blk_drew ?_ | refine blk_alloc ?_ _)); refine blk_put (cs := #[.int .i64 t101, .int .i64 t102, .int .i64 0, .int .i64 0, .slice none 0 0]) ?_ 2 _ rfl; (with_reducible repeat (first | refine blk_drewN ?_ _ | refine blk_drew ?_ | refine blk_alloc ?_ _)); refine blk_put (cs := #[.int .i64 t101, .int .i64 0, .int .i64 0, .int .i64 0, .slice none 0 0]) ?_ 1 _ rfl; (with_reducible repeat (first | refine blk_drewN ?_ _ | refine blk_drew ?_ | refine blk_alloc ?_ _)); refine blk_put (cs := #[.int .i64 0, .int .i64 0, .int .i64 0, .int .i64 0, .slice none 0 0]) ?_ 0 _ rfl; (with_reducible repeat (first | refine blk_drewN ?_ _ | refine blk_drew ?_ | refine blk_alloc ?_ _)); exact BKv1.out) hb); have n2_ := Aside0.mk (below_step (qg1_ GEv1.out) hb); clear HOv1; clear BKv1; clear HB; have HOv1 := n0_; have BKv1 := n1_; have HB := n2_; clear n0_ n1_ n2_; (try clear hb); (try clear hbv1); (try clear hk); (try clear hi); have hczv6 : wv3.cell? ⟨gbv1, 0, none⟩ = some (.int .i64 t101) := (blk_cell BKv1.out 0).trans rfl; have hczv7 : wv3.cell? ⟨gbv1, 1, none⟩ = some (.int .i64 t102) := (blk_cell BKv1.out 1).trans rfl; have hczv8 : wv3.cell? ⟨gbv1, 2, none⟩ = some (.int .i64 t103) := (blk_cell BKv1.out 2).trans rfl; have hczv9 : wv3.cell? ⟨gbv1, 3, none⟩ = some (.int .i64 t104) := (blk_cell BKv1.out 3).trans rfl; have hczv10 : wv3.cell? ⟨gbv1, 4, none⟩ = some (.slice Aov1 t105.length cov1) := (blk_cell BKv1.out 4).trans rfl; have hfzv6 := blk_frozen BKv1.out 0; have hfzv7 := blk_frozen BKv1.out 1; have hfzv8 := blk_frozen BKv1.out 2; have hfzv9 := blk_frozen BKv1.out 3; have hfzv10 := blk_frozen BKv1.out 4))
 have hq0 := Aside0.mk True.intro
 rotate_left
 rw [if_neg c4] at H
 have c4b0 : (t108 == 0) = false := beq_eq_false_iff_ne.mpr c4
 have c4b1 : (t108 != 0) = true := bne_iff_ne.mpr c4
 simp only [Option.some.injEq, Prod.mk.injEq] at H
 obtain ⟨rfl, rfl, rfl⟩ := H
 focus go_enter Try.func39, Try.ntmps39
 focus go_wp2_with (first | ((with_reducible refine gate_callee (f := 21) rfl ?_); refine goesL_ (some 12) rfl rfl Try.func21 (by kernel_rfl) rfl #[.slice A0 l0.length c0, .int .i64 a1] rfl qm_ ?_; (with_reducible refine (node_Read.calls _ _ l0 a1 t101 t102 t103 t104 t105 t108 _ ?side1 ?side2 A3.out).mono ?_); (case side1 => repeat (first | exact HR0.out | (with_reducible refine Kd.C_alloc ?_ _) | (with_reducible refine Kd.C_drewN ?_ _) | (with_reducible refine Kd.C_drew ?_))); (case side2 => exact HC0.out); rintro e wv1 ⟨vv1, rfl, hov1, hb⟩; refine ⟨_, rfl, ?_⟩; have n0_ := Aside0.mk (Kd.R_lower hov1 (below_size qh_)); have n1_ := Aside0.mk (below_step qh_ hb); clear HB; have HOv1 := n0_; have HB := n1_; clear n0_ n1_; (try clear hb); (try clear hbv1); (try clear hk); (try clear hi); (try clear hov1)) | ((with_reducible refine gate_dst (N := 7) rfl ?_); refine box_event ?hg (N := 7) ?hd (cs := #[.int .i64 0, .int .i64 0, .int .i64 0, .int .i64 0, .slice none 0 0]) (t := 24) ?hr ?_; (case hd => rfl); (case hg => rfl); (case hr => first | (go_simp; done) | (go_simp; rfl)); intro gbv1 hg wv2 hbox hb; have n0_ := Aside0.mk (Kd.R_below (qr_ HOv1.out) hb); have n1_ := Aside0.mk (below_step qh_ hb); have n2_ := Aside0.mk (hbox); have n3_ := Aside0.mk ((by rw [hg]; exact (below_size qh_) : w.heap.size ≤ gbv1)); have n4_ := Aside0.mk ((by rw [hg]; exact (below_size qh_) : w.heap.size ≤ gbv1)); clear HOv1; clear HB; have HOv1 := n0_; have HB := n1_; have BKv1 := n2_; have GWv1 := n3_; have GEv1 := n4_; clear n0_ n1_ n2_ n3_ n4_; clear hb hbox hg; have hczv1 : wv2.cell? ⟨gbv1, 0, none⟩ = some (.int .i64 0) := (blk_cell BKv1.out 0).trans rfl; have hczv2 : wv2.cell? ⟨gbv1, 1, none⟩ = some (.int .i64 0) := (blk_cell BKv1.out 1).trans rfl; have hczv3 : wv2.cell? ⟨gbv1, 2, none⟩ = some (.int .i64 0) := (blk_cell BKv1.out 2).trans rfl; have hczv4 : wv2.cell? ⟨gbv1, 3, none⟩ = some (.int .i64 0) := (blk_cell BKv1.out 3).trans rfl; have hczv5 : wv2.cell? ⟨gbv1, 4, none⟩ = some (.slice none 0 0) := (blk_cell BKv1.out 4).trans rfl; have hfzv1 := blk_frozen BKv1.out 0; have hfzv2 := blk_frozen BKv1.out 1; have hfzv3 := blk_frozen BKv1.out 2; have hfzv4 := blk_frozen BKv1.out 3; have hfzv5 := blk_frozen BKv1.out 4; obtain ⟨Aov1, cov1, eov1⟩ := Kd.R_slice HOv1.out; subst eov1))
 have hq0 := Aside0.mk True.intro
 rotate_left
 all_goals first
   | (clear hq0
      go_ret3
      exact ⟨qe_, by repeat (first | (with_reducible first | exact HB.out | apply below_alloc | apply pw_below_drewN | apply below_drew1 | refine below_set ?_ GEv1.out) | exact HB.out)⟩)
/-! ### index_child: function 40 -/
def index_child.l0 : Nat → List Int → ByteArray → Int → List Int → Int → Int → Option (Int)
  | 0, _, _, _, _, _, _ => none
  | k + 1, x0, x2, x6, x12, x13, x14 => if x14 < x13 then (if 0 ≤ x14 then (if x14 < (x12.length : Int) then ((rec_Read.f x0 (rd x12 x14)).bind fun bt114 => (if bt114.2.2.2.2 = 0 then (if bt114.1 = 2 then (if ((Op.bytesLess x2.toList bt114.2.1.toList) = true) then (index_child.l0 k x0 x2 x6 x12 x13 (wrap64 (x14 + 1))) else (index_child.l0 k x0 x2 bt114.2.2.2.1 x12 x13 (wrap64 (x14 + 1)))) else (index_child.l0 k x0 x2 x6 x12 x13 (wrap64 (x14 + 1)))) else (index_child.l0 k x0 x2 x6 x12 x13 (wrap64 (x14 + 1))))) else (none)) else (none)) else (some x6)
def index_child.f (k : Nat) (l0 : List Int) (a1_0 : Int) (a1_1 : Int) (a1_2 : Int) (a1_3 : Int) (l1_4 : List Int) (a2 : ByteArray) : Option (Int) := index_child.l0 k l0 a2 0 l1_4 (l1_4.length : Int) 0
theorem index_child.mono_l : ∀ k, (∀ y0 y1 y2 y3 y4 y5, LeO (index_child.l0 k y0 y1 y2 y3 y4 y5) (index_child.l0 (k + 1) y0 y1 y2 y3 y4 y5))
  | 0 => fun _ _ _ _ _ _ r h => by simp [index_child.l0] at h
  | k + 1 => by
    have ih0 := index_child.mono_l k
    · intro y0 y1 y2 y3 y4 y5
      unfold index_child.l0
      repeat' first
      | (with_reducible exact ih0 _ _ _ _ _ _)
      | (with_reducible exact LeO.refl _)
      | (with_reducible exact LeO.none _)
      | (with_reducible refine LeO.ite ?_ ?_)
      | (with_reducible refine LeO.bind ?_ (fun _ => ?_))
      | exact ih0 _ _ _ _ _ _
      | exact LeO.none _
      | refine LeO.ite ?_ ?_
      | refine LeO.bind ?_ (fun _ => ?_)
theorem index_child.mono : ∀ a0 a1 a2 a3 a4 a5 a6 k, LeO (index_child.f k a0 a1 a2 a3 a4 a5 a6) (index_child.f (k + 1) a0 a1 a2 a3 a4 a5 a6) := by
 intro a0 a1 a2 a3 a4 a5 a6 k
 have ih0 := index_child.mono_l k
 unfold index_child.f
 repeat' first
     | (with_reducible exact ih0 _ _ _ _ _ _)
     | (with_reducible exact LeO.refl _)
     | (with_reducible exact LeO.none _)
     | (with_reducible refine LeO.ite ?_ ?_)
     | (with_reducible refine LeO.bind ?_ (fun _ => ?_))
     | exact ih0 _ _ _ _ _ _
     | exact LeO.none _
     | refine LeO.ite ?_ ?_
     | refine LeO.bind ?_ (fun _ => ?_)
set_option maxHeartbeats 8000000 in
set_option maxRecDepth 100000 in
theorem index_child.calls (k : Nat) (A0 : Option Addr) (c0 : Nat) (l0 : List Int) (a1_0 : Int) (a1_1 : Int) (a1_2 : Int) (a1_3 : Int) (A1_4 : Option Addr) (c1_4 : Nat) (l1_4 : List Int) (a2 : ByteArray) (r : Int) (w : World) (hr0 : Kd.C (Kd.int .i64) w A0 l0.length l0) (hc0 : l0.length ≤ c0) (hr1_4 : Kd.C (Kd.int .i64) w A1_4 l1_4.length l1_4) (hc1_4 : l1_4.length ≤ c1_4) (h : index_child.f k l0 a1_0 a1_1 a1_2 a1_3 l1_4 a2 = some r) :
    Calls Try.prog 40 #[.slice A0 l0.length c0, .agg #[.int .i64 a1_0, .int .i64 a1_1, .int .i64 a1_2, .int .i64 a1_3, .slice A1_4 l1_4.length c1_4], .string a2] w fun e w' => e = .returned (.int .i64 r) ∧ Below w.heap.size w w' := by
 have hu24 := Try.underlying24
 have hu62 := Try.underlying62
 have HR0 := Aside0.mk hr0
 have HC0 := Aside0.mk hc0
 clear hr0 hc0
 have HR1_4 := Aside0.mk hr1_4
 have HC1_4 := Aside0.mk hc1_4
 clear hr1_4 hc1_4
 have HB := Aside0.mk (Below.refl w.heap.size w)
 have H : (index_child.l0 k l0 a2 0 l1_4 (l1_4.length : Int) 0) = some r := h
 clear h
 have H' := Aside0.mk H
 clear H
 go_enter Try.func40, Try.ntmps40
 go_wp2_with (first | ((with_reducible refine gate_dst (N := 4) rfl ?_); refine box_event ?hg (N := 4) ?hd (cs := #[.int .i64 a1_0, .int .i64 a1_1, .int .i64 a1_2, .int .i64 a1_3, .slice A1_4 l1_4.length c1_4]) (t := 24) ?hr ?_; (case hd => rfl); (case hg => rfl); (case hr => first | (go_simp; done) | (go_simp; rfl)); intro gb112 hg w4 hbox hb; have n0_ := Aside0.mk (below_step qh_ hb); have n1_ := Aside0.mk (hbox); have n2_ := Aside0.mk ((by rw [hg]; exact (below_size qh_) : w.heap.size ≤ gb112)); have n3_ := Aside0.mk ((by rw [hg]; exact (below_size qh_) : w.heap.size ≤ gb112)); clear HB; have HB := n0_; have BK112 := n1_; have GW112 := n2_; have GE112 := n3_; clear n0_ n1_ n2_ n3_; clear hb hbox hg; have hcz5_0 : w4.cell? ⟨gb112, 0, none⟩ = some (.int .i64 a1_0) := (blk_cell BK112.out 0).trans rfl; have hcz5_1 : w4.cell? ⟨gb112, 1, none⟩ = some (.int .i64 a1_1) := (blk_cell BK112.out 1).trans rfl; have hcz5_2 : w4.cell? ⟨gb112, 2, none⟩ = some (.int .i64 a1_2) := (blk_cell BK112.out 2).trans rfl; have hcz5_3 : w4.cell? ⟨gb112, 3, none⟩ = some (.int .i64 a1_3) := (blk_cell BK112.out 3).trans rfl; have hcz5_4 : w4.cell? ⟨gb112, 4, none⟩ = some (.slice A1_4 l1_4.length c1_4) := (blk_cell BK112.out 4).trans rfl; have hfz5_0 := blk_frozen BK112.out 0; have hfz5_1 := blk_frozen BK112.out 1; have hfz5_2 := blk_frozen BK112.out 2; have hfz5_3 := blk_frozen BK112.out 3; have hfz5_4 := blk_frozen BK112.out 4))
 go_loopg [6, 14] k (fun kq v6 v14 w' => ∃ (x6_1 : Int) (x14_1 : Int), v6 = .int .i64 x6_1 ∧ v14 = .int .i64 x14_1 ∧ Aside0 (index_child.l0 kq l0 a2 x6_1 l1_4 (l1_4.length : Int) x14_1 = some r) ∧ Aside0 (kq ≤ k) ∧ Aside0 (w'.heap[gb112]? = some (.cells #[.int .i64 a1_0, .int .i64 a1_1, .int .i64 a1_2, .int .i64 a1_3, (.slice A1_4 l1_4.length c1_4)] 24 (0, 0))) ∧ Aside0 (Below w.heap.size w w'))
 case atStart => exact ⟨(0), (0), (by first | rfl | (simp; done) | (simp [*]; done)), (by first | rfl | (simp; done) | (simp [*]; done)), H', ⟨Nat.le_refl _⟩, ⟨by (with_reducible repeat (first | refine blk_drewN ?_ _ | refine blk_drew ?_ | refine blk_alloc ?_ _)); exact BK112.out⟩, ⟨by repeat (first | (with_reducible first | exact HB.out | apply below_alloc | apply pw_below_drewN | apply below_drew1 | refine below_set ?_ GE112.out) | exact HB.out)⟩⟩
 case round =>
  clear H'
  try clear c1
  try clear p2
  try clear c4
  try clear hcz5_0
  try clear hcz5_1
  try clear hcz5_2
  try clear hcz5_3
  try clear hcz5_4
  try clear hfz5_0
  try clear hfz5_1
  try clear hfz5_2
  try clear hfz5_3
  try clear hfz5_4
  obtain ⟨x6_1, x14_1, rfl, rfl, HA, HK1, BK112, HB⟩ := hrel
  cases gk with
  | zero => exact absurd HA.out (by simp [index_child.l0])
  | succ k1 =>
   have H := HA.out
   clear HA
   simp only [index_child.l0] at H
   by_cases c6 : x14_1 < (l1_4.length : Int)
   rw [if_pos c6] at H
   have c6b0 : decide (x14_1 < (l1_4.length : Int)) = true := decide_eq_true c6
   clear c6
   by_cases cv1 : 0 ≤ x14_1
   rw [if_pos cv1] at H
   have c7b0 : decide (0 ≤ x14_1) = true := decide_eq_true cv1
   clear cv1
   by_cases cv2 : x14_1 < (l1_4.length : Int)
   rw [if_pos cv2] at H
   have c8b0 : decide (x14_1 < (l1_4.length : Int)) = true := decide_eq_true cv2
   clear cv2
   replace H := Option.bind_eq_some_iff.mp H
   obtain ⟨⟨tv1, tv2, tv3, tv4, tv5⟩, Av1, H⟩ := H
   try dsimp only at H
   have Av2 := Aside0.mk Av1
   clear Av1
   by_cases cv3 : tv5 = 0
   rw [if_pos cv3] at H
   have c10b0 : (tv5 == 0) = true := beq_iff_eq.mpr cv3
   have c10b1 : (tv5 != 0) = false := bne_eq_false_iff_eq.mpr cv3
   clear cv3
   by_cases cv4 : tv1 = 2
   rw [if_pos cv4] at H
   have c11b0 : (tv1 == 2) = true := beq_iff_eq.mpr cv4
   have c11b1 : (tv1 != 2) = false := bne_eq_false_iff_eq.mpr cv4
   clear cv4
   by_cases cv5 : ((Op.bytesLess a2.toList tv2.toList) = true)
   rw [if_pos cv5] at H
   have c12b0 : (Op.bytesLess a2.toList tv2.toList) = true := cv5
   clear cv5
   have hq0 := Aside0.mk True.intro
   rotate_left
   · rw [if_neg cv5] at H
     have c12b0 : (Op.bytesLess a2.toList tv2.toList) = false := by simpa using cv5
     clear cv5
     have H' := Aside0.mk H
     clear H
     have pv1 : 0 ≤ (x14_1 : Int) := of_decide_eq_true (by first | (with_reducible assumption) | assumption)
     have qv1 : x14_1 < (l1_4.length : Int) := of_decide_eq_true (by first | (with_reducible assumption) | assumption)
     obtain ⟨adv1, ev1, hxv1⟩ := Kd.at_int HR1_4.out x14_1 pv1 qv1
     cases ev1
     replace hxv1 := kc_ HB.out hxv1
     replace pv1 := eq_true pv1
     replace qv1 := eq_true qv1
     go_wp2_with (first | ((with_reducible refine gate_callee (f := 44) rfl ?_); refine goesL_ (some 21) rfl rfl Try.func44 (by kernel_rfl) rfl #[.slice A0 l0.length c0, .int .i64 (rd l1_4 x14_1)] rfl qm_ ?_; (with_reducible refine (rec_Read.calls _ _ l0 (rd l1_4 x14_1) tv1 tv2 tv3 tv4 tv5 _ ?side1 ?side2 Av2.out).mono ?_); (case side1 => repeat (first | exact (Kd.C_below HR0.out HB.out) | (with_reducible refine Kd.C_alloc ?_ _) | (with_reducible refine Kd.C_drewN ?_ _) | (with_reducible refine Kd.C_drew ?_))); (case side2 => exact HC0.out); rintro e wv1 ⟨rfl, hb⟩; refine ⟨_, rfl, ?_⟩; have n0_ := Aside0.mk (blk_below (g := gb112) (o := .cells #[.int .i64 a1_0, .int .i64 a1_1, .int .i64 a1_2, .int .i64 a1_3, .slice (some adv1) l1_4.length c1_4] 24 (0, 0)) (qb_ BK112.out) hb); have n1_ := Aside0.mk (below_step (qg1_ GE112.out) hb); clear BK112; clear HB; have BK112 := n0_; have HB := n1_; clear n0_ n1_; (try clear hb); (try clear hbv1); (try clear hk); (try clear hi)) | ((with_reducible refine gate_dst (N := 9) rfl ?_); refine box_event ?hg (N := 9) ?hd (cs := #[.int .i64 0, .string (⟨#[]⟩ : ByteArray), .string (⟨#[]⟩ : ByteArray), .int .i64 0]) (t := 62) ?hr ?_; (case hd => rfl); (case hg => rfl); (case hr => first | (go_simp; done) | (go_simp; rfl)); intro gbv1 hg wv2 hbox hb; have n0_ := Aside0.mk (blk_below (g := gb112) (o := .cells #[.int .i64 a1_0, .int .i64 a1_1, .int .i64 a1_2, .int .i64 a1_3, .slice (some adv1) l1_4.length c1_4] 24 (0, 0)) (qb_ BK112.out) hb); have n1_ := Aside0.mk (below_step (qg1_ GE112.out) hb); have n2_ := Aside0.mk (hbox); have n3_ := Aside0.mk ((by rw [hg]; exact (below_size (qg1_ GE112.out)) : w.heap.size ≤ gbv1)); have n4_ := Aside0.mk ((by rw [hg]; exact (below_size (qg1_ GE112.out)) : w.heap.size ≤ gbv1)); have n5_ := Aside0.mk ((by rw [hg]; exact Nat.ne_of_lt (blk_lt (g := gb112) (o := .cells #[.int .i64 a1_0, .int .i64 a1_1, .int .i64 a1_2, .int .i64 a1_3, .slice (some adv1) l1_4.length c1_4] 24 (0, 0)) (qb_ BK112.out)) : gb112 ≠ gbv1)); have n6_ := Aside0.mk ((by rw [hg]; exact Nat.ne_of_gt (blk_lt (g := gb112) (o := .cells #[.int .i64 a1_0, .int .i64 a1_1, .int .i64 a1_2, .int .i64 a1_3, .slice (some adv1) l1_4.length c1_4] 24 (0, 0)) (qb_ BK112.out)) : gbv1 ≠ gb112)); clear BK112; clear HB; have BK112 := n0_; have HB := n1_; have BKv1 := n2_; have GWv1 := n3_; have GEv1 := n4_; have NBv1 := n5_; have NBv2 := n6_; clear n0_ n1_ n2_ n3_ n4_ n5_ n6_; clear hb hbox hg; have hnbv1 := NBv2.out; have hncv1 := NBv1.out; have hczv1 : wv2.cell? ⟨gbv1, 0, none⟩ = some (.int .i64 0) := (blk_cell BKv1.out 0).trans rfl; have hczv2 : wv2.cell? ⟨gbv1, 1, none⟩ = some (.string (⟨#[]⟩ : ByteArray)) := (blk_cell BKv1.out 1).trans rfl; have hczv3 : wv2.cell? ⟨gbv1, 2, none⟩ = some (.string (⟨#[]⟩ : ByteArray)) := (blk_cell BKv1.out 2).trans rfl; have hczv4 : wv2.cell? ⟨gbv1, 3, none⟩ = some (.int .i64 0) := (blk_cell BKv1.out 3).trans rfl; have hfzv1 := blk_frozen BKv1.out 0; have hfzv2 := blk_frozen BKv1.out 1; have hfzv3 := blk_frozen BKv1.out 2; have hfzv4 := blk_frozen BKv1.out 3))
     go_roundg k1
     case measure => have := HK1.out; omega
     case rel => exact ⟨(tv4), (wrap64 (x14_1 + 1)), (by first | rfl | (simp; done) | (simp [*]; done)), (by first | rfl | (simp; done) | (simp [*]; done)), H', ⟨by have := HK1.out; omega⟩, ⟨by (with_reducible repeat (first | refine blk_drewN ?_ _ | refine blk_drew ?_ | refine blk_alloc ?_ _)); refine blk_far ?_ NBv1.out _; (with_reducible repeat (first | refine blk_drewN ?_ _ | refine blk_drew ?_ | refine blk_alloc ?_ _)); refine blk_far ?_ NBv1.out _; (with_reducible repeat (first | refine blk_drewN ?_ _ | refine blk_drew ?_ | refine blk_alloc ?_ _)); refine blk_far ?_ NBv1.out _; (with_reducible repeat (first | refine blk_drewN ?_ _ | refine blk_drew ?_ | refine blk_alloc ?_ _)); refine blk_far ?_ NBv1.out _; (with_reducible repeat (first | refine blk_drewN ?_ _ | refine blk_drew ?_ | refine blk_alloc ?_ _)); exact BK112.out⟩, ⟨by repeat (first | (with_reducible first | exact HB.out | apply below_alloc | apply pw_below_drewN | apply below_drew1 | refine below_set ?_ GE112.out | refine below_set ?_ GEv1.out) | exact HB.out)⟩⟩
   rw [if_neg cv4] at H
   have c11b0 : (tv1 == 2) = false := beq_eq_false_iff_ne.mpr cv4
   have c11b1 : (tv1 != 2) = true := bne_iff_ne.mpr cv4
   have hq0 := Aside0.mk True.intro
   rotate_left
   rw [if_neg cv3] at H
   have c10b0 : (tv5 == 0) = false := beq_eq_false_iff_ne.mpr cv3
   have c10b1 : (tv5 != 0) = true := bne_iff_ne.mpr cv3
   have hq0 := Aside0.mk True.intro
   rotate_left
   · rw [if_neg cv2] at H
     exact absurd H (by simp)
   · rw [if_neg cv1] at H
     exact absurd H (by simp)
   · rw [if_neg c6] at H
     have c6b0 : decide (x14_1 < (l1_4.length : Int)) = false := decide_eq_false c6
     clear c6
     obtain rfl := Option.some.inj H
     go_wp2
     go_ret
     exact ⟨qe_, by repeat (first | (with_reducible first | exact HB.out | apply below_alloc | apply pw_below_drewN | apply below_drew1 | refine below_set ?_ GE112.out) | exact HB.out)⟩
   all_goals first
     | (clear hq0
        have H' := Aside0.mk H
        clear H
        have pz1 : 0 ≤ (x14_1 : Int) := of_decide_eq_true (by first | (with_reducible assumption) | assumption)
        have qz1 : x14_1 < (l1_4.length : Int) := of_decide_eq_true (by first | (with_reducible assumption) | assumption)
        obtain ⟨adz1, ez1, hxz1⟩ := Kd.at_int HR1_4.out x14_1 pz1 qz1
        cases ez1
        replace hxz1 := kc_ HB.out hxz1
        replace pz1 := eq_true pz1
        replace qz1 := eq_true qz1
        go_wp2_with (first | ((with_reducible refine gate_callee (f := 44) rfl ?_); refine goesL_ (some 21) rfl rfl Try.func44 (by kernel_rfl) rfl #[.slice A0 l0.length c0, .int .i64 (rd l1_4 x14_1)] rfl qm_ ?_; (with_reducible refine (rec_Read.calls _ _ l0 (rd l1_4 x14_1) tv1 tv2 tv3 tv4 tv5 _ ?side1 ?side2 Av2.out).mono ?_); (case side1 => repeat (first | exact (Kd.C_below HR0.out HB.out) | (with_reducible refine Kd.C_alloc ?_ _) | (with_reducible refine Kd.C_drewN ?_ _) | (with_reducible refine Kd.C_drew ?_))); (case side2 => exact HC0.out); rintro e wz1 ⟨rfl, hb⟩; refine ⟨_, rfl, ?_⟩; have n0_ := Aside0.mk (blk_below (g := gb112) (o := .cells #[.int .i64 a1_0, .int .i64 a1_1, .int .i64 a1_2, .int .i64 a1_3, .slice (some adz1) l1_4.length c1_4] 24 (0, 0)) (qb_ BK112.out) hb); have n1_ := Aside0.mk (below_step (qg1_ GE112.out) hb); clear BK112; clear HB; have BK112 := n0_; have HB := n1_; clear n0_ n1_; (try clear hb); (try clear hbz1); (try clear hk); (try clear hi)) | ((with_reducible refine gate_dst (N := 9) rfl ?_); refine box_event ?hg (N := 9) ?hd (cs := #[.int .i64 0, .string (⟨#[]⟩ : ByteArray), .string (⟨#[]⟩ : ByteArray), .int .i64 0]) (t := 62) ?hr ?_; (case hd => rfl); (case hg => rfl); (case hr => first | (go_simp; done) | (go_simp; rfl)); intro gbz1 hg wz2 hbox hb; have n0_ := Aside0.mk (blk_below (g := gb112) (o := .cells #[.int .i64 a1_0, .int .i64 a1_1, .int .i64 a1_2, .int .i64 a1_3, .slice (some adz1) l1_4.length c1_4] 24 (0, 0)) (qb_ BK112.out) hb); have n1_ := Aside0.mk (below_step (qg1_ GE112.out) hb); have n2_ := Aside0.mk (hbox); have n3_ := Aside0.mk ((by rw [hg]; exact (below_size (qg1_ GE112.out)) : w.heap.size ≤ gbz1)); have n4_ := Aside0.mk ((by rw [hg]; exact (below_size (qg1_ GE112.out)) : w.heap.size ≤ gbz1)); have n5_ := Aside0.mk ((by rw [hg]; exact Nat.ne_of_lt (blk_lt (g := gb112) (o := .cells #[.int .i64 a1_0, .int .i64 a1_1, .int .i64 a1_2, .int .i64 a1_3, .slice (some adz1) l1_4.length c1_4] 24 (0, 0)) (qb_ BK112.out)) : gb112 ≠ gbz1)); have n6_ := Aside0.mk ((by rw [hg]; exact Nat.ne_of_gt (blk_lt (g := gb112) (o := .cells #[.int .i64 a1_0, .int .i64 a1_1, .int .i64 a1_2, .int .i64 a1_3, .slice (some adz1) l1_4.length c1_4] 24 (0, 0)) (qb_ BK112.out)) : gbz1 ≠ gb112)); clear BK112; clear HB; have BK112 := n0_; have HB := n1_; have BKz1 := n2_; have GWz1 := n3_; have GEz1 := n4_; have NBz1 := n5_; have NBz2 := n6_; clear n0_ n1_ n2_ n3_ n4_ n5_ n6_; clear hb hbox hg; have hnbz1 := NBz2.out; have hncz1 := NBz1.out; have hczz1 : wz2.cell? ⟨gbz1, 0, none⟩ = some (.int .i64 0) := (blk_cell BKz1.out 0).trans rfl; have hczz2 : wz2.cell? ⟨gbz1, 1, none⟩ = some (.string (⟨#[]⟩ : ByteArray)) := (blk_cell BKz1.out 1).trans rfl; have hczz3 : wz2.cell? ⟨gbz1, 2, none⟩ = some (.string (⟨#[]⟩ : ByteArray)) := (blk_cell BKz1.out 2).trans rfl; have hczz4 : wz2.cell? ⟨gbz1, 3, none⟩ = some (.int .i64 0) := (blk_cell BKz1.out 3).trans rfl; have hfzz1 := blk_frozen BKz1.out 0; have hfzz2 := blk_frozen BKz1.out 1; have hfzz3 := blk_frozen BKz1.out 2; have hfzz4 := blk_frozen BKz1.out 3))
        go_roundg k1
        case measure => have := HK1.out; omega
        case rel => exact ⟨(x6_1), (wrap64 (x14_1 + 1)), (by first | rfl | (simp; done) | (simp [*]; done)), (by first | rfl | (simp; done) | (simp [*]; done)), H', ⟨by have := HK1.out; omega⟩, ⟨by (with_reducible repeat (first | refine blk_drewN ?_ _ | refine blk_drew ?_ | refine blk_alloc ?_ _)); refine blk_far ?_ NBz1.out _; (with_reducible repeat (first | refine blk_drewN ?_ _ | refine blk_drew ?_ | refine blk_alloc ?_ _)); refine blk_far ?_ NBz1.out _; (with_reducible repeat (first | refine blk_drewN ?_ _ | refine blk_drew ?_ | refine blk_alloc ?_ _)); refine blk_far ?_ NBz1.out _; (with_reducible repeat (first | refine blk_drewN ?_ _ | refine blk_drew ?_ | refine blk_alloc ?_ _)); refine blk_far ?_ NBz1.out _; (with_reducible repeat (first | refine blk_drewN ?_ _ | refine blk_drew ?_ | refine blk_alloc ?_ _)); exact BK112.out⟩, ⟨by repeat (first | (with_reducible first | exact HB.out | apply below_alloc | apply pw_below_drewN | apply below_drew1 | refine below_set ?_ GE112.out | refine below_set ?_ GEz1.out) | exact HB.out)⟩⟩)
/-! ### index_Place: function 19 -/
mutual
def index_Place.l0 : Nat → List Int → ByteArray → Int → Bool → List Int → Int → Int → Int → Int → Int → Int → List Int → Option (Int × Bool)
  | 0, _, _, _, _, _, _, _, _, _, _, _, _ => none
  | k + 1, x0, x2, x6, x7, x13, x14, x15, x121000, x121001, x121002, x121003, x121004 => if x15 < x14 then (if 0 ≤ x15 then (if x15 < (x13.length : Int) then ((rec_Read.f x0 (rd x13 x15)).bind fun bt122 => (if bt122.2.2.2.2 = 0 then (index_Place.j1 k x0 x2 x6 x7 x15 x13 x14 x15 (Op.bytesLess bt122.2.1.toList x2.toList) x121000 x121001 x121002 x121003 x121004 bt122.1 bt122.2.1 bt122.2.2.1 bt122.2.2.2.1) else (index_Place.j1 k x0 x2 x6 x7 x15 x13 x14 x15 true x121000 x121001 x121002 x121003 x121004 bt122.1 bt122.2.1 bt122.2.2.1 bt122.2.2.2.1))) else (none)) else (none)) else (if x6 < 0 then (some ((x121004.length : Int), x7)) else (some (x6, x7)))
def index_Place.j1 : Nat → List Int → ByteArray → Int → Bool → Int → List Int → Int → Int → Bool → Int → Int → Int → Int → List Int → Int → ByteArray → ByteArray → Int → Option (Int × Bool)
  | 0, _, _, _, _, _, _, _, _, _, _, _, _, _, _, _, _, _, _ => none
  | k + 1, x0, x2, x6, x7, x8, x13, x14, x15, x26, x121000, x121001, x121002, x121003, x121004, x128000, x128001, x128002, x128003 => if x26 = true then (index_Place.l0 k x0 x2 x6 x7 x13 x14 (wrap64 (x15 + 1)) x121000 x121001 x121002 x121003 x121004) else (if x128001.toList = x2.toList then (some (x8, true)) else (if x6 < 0 then (index_Place.l0 k x0 x2 x8 x7 x13 x14 (wrap64 (x15 + 1)) x121000 x121001 x121002 x121003 x121004) else (index_Place.l0 k x0 x2 x6 x7 x13 x14 (wrap64 (x15 + 1)) x121000 x121001 x121002 x121003 x121004)))
end
def index_Place.f (k : Nat) (l0 : List Int) (a1_0 : Int) (a1_1 : Int) (a1_2 : Int) (a1_3 : Int) (l1_4 : List Int) (a2 : ByteArray) : Option (Int × Bool) := index_Place.l0 k l0 a2 (-1) false l1_4 (l1_4.length : Int) 0 a1_0 a1_1 a1_2 a1_3 l1_4
theorem index_Place.mono_l : ∀ k, (∀ y0 y1 y2 y3 y4 y5 y6 y7 y8 y9 y10 y11, LeO (index_Place.l0 k y0 y1 y2 y3 y4 y5 y6 y7 y8 y9 y10 y11) (index_Place.l0 (k + 1) y0 y1 y2 y3 y4 y5 y6 y7 y8 y9 y10 y11)) ∧ (∀ y0 y1 y2 y3 y4 y5 y6 y7 y8 y9 y10 y11 y12 y13 y14 y15 y16 y17, LeO (index_Place.j1 k y0 y1 y2 y3 y4 y5 y6 y7 y8 y9 y10 y11 y12 y13 y14 y15 y16 y17) (index_Place.j1 (k + 1) y0 y1 y2 y3 y4 y5 y6 y7 y8 y9 y10 y11 y12 y13 y14 y15 y16 y17))
  | 0 => ⟨fun _ _ _ _ _ _ _ _ _ _ _ _ r h => by simp [index_Place.l0] at h, fun _ _ _ _ _ _ _ _ _ _ _ _ _ _ _ _ _ _ r h => by simp [index_Place.j1] at h⟩
  | k + 1 => by
    obtain ⟨ih0, ih1⟩ := index_Place.mono_l k
    refine ⟨?_, ?_⟩
    · intro y0 y1 y2 y3 y4 y5 y6 y7 y8 y9 y10 y11
      unfold index_Place.l0
      repeat' first
      | (with_reducible exact ih0 _ _ _ _ _ _ _ _ _ _ _ _)
      | (with_reducible exact ih1 _ _ _ _ _ _ _ _ _ _ _ _ _ _ _ _ _ _)
      | (with_reducible exact LeO.refl _)
      | (with_reducible exact LeO.none _)
      | (with_reducible refine LeO.ite ?_ ?_)
      | (with_reducible refine LeO.bind ?_ (fun _ => ?_))
      | exact ih0 _ _ _ _ _ _ _ _ _ _ _ _
      | exact ih1 _ _ _ _ _ _ _ _ _ _ _ _ _ _ _ _ _ _
      | exact LeO.none _
      | refine LeO.ite ?_ ?_
      | refine LeO.bind ?_ (fun _ => ?_)
    · intro y0 y1 y2 y3 y4 y5 y6 y7 y8 y9 y10 y11 y12 y13 y14 y15 y16 y17
      unfold index_Place.j1
      repeat' first
      | (with_reducible exact ih0 _ _ _ _ _ _ _ _ _ _ _ _)
      | (with_reducible exact ih1 _ _ _ _ _ _ _ _ _ _ _ _ _ _ _ _ _ _)
      | (with_reducible exact LeO.refl _)
      | (with_reducible exact LeO.none _)
      | (with_reducible refine LeO.ite ?_ ?_)
      | (with_reducible refine LeO.bind ?_ (fun _ => ?_))
      | exact ih0 _ _ _ _ _ _ _ _ _ _ _ _
      | exact ih1 _ _ _ _ _ _ _ _ _ _ _ _ _ _ _ _ _ _
      | exact LeO.none _
      | refine LeO.ite ?_ ?_
      | refine LeO.bind ?_ (fun _ => ?_)
theorem index_Place.mono : ∀ a0 a1 a2 a3 a4 a5 a6 k, LeO (index_Place.f k a0 a1 a2 a3 a4 a5 a6) (index_Place.f (k + 1) a0 a1 a2 a3 a4 a5 a6) := by
 intro a0 a1 a2 a3 a4 a5 a6 k
 obtain ⟨ih0, ih1⟩ := index_Place.mono_l k
 unfold index_Place.f
 repeat' first
     | (with_reducible exact ih0 _ _ _ _ _ _ _ _ _ _ _ _)
     | (with_reducible exact ih1 _ _ _ _ _ _ _ _ _ _ _ _ _ _ _ _ _ _)
     | (with_reducible exact LeO.refl _)
     | (with_reducible exact LeO.none _)
     | (with_reducible refine LeO.ite ?_ ?_)
     | (with_reducible refine LeO.bind ?_ (fun _ => ?_))
     | exact ih0 _ _ _ _ _ _ _ _ _ _ _ _
     | exact ih1 _ _ _ _ _ _ _ _ _ _ _ _ _ _ _ _ _ _
     | exact LeO.none _
     | refine LeO.ite ?_ ?_
     | refine LeO.bind ?_ (fun _ => ?_)
set_option maxHeartbeats 8000000 in
set_option maxRecDepth 100000 in
theorem index_Place.calls (k : Nat) (A0 : Option Addr) (c0 : Nat) (l0 : List Int) (a1_0 : Int) (a1_1 : Int) (a1_2 : Int) (a1_3 : Int) (A1_4 : Option Addr) (c1_4 : Nat) (l1_4 : List Int) (a2 : ByteArray) (r1 : Int) (r2 : Bool) (w : World) (hr0 : Kd.C (Kd.int .i64) w A0 l0.length l0) (hc0 : l0.length ≤ c0) (hr1_4 : Kd.C (Kd.int .i64) w A1_4 l1_4.length l1_4) (hc1_4 : l1_4.length ≤ c1_4) (h : index_Place.f k l0 a1_0 a1_1 a1_2 a1_3 l1_4 a2 = some (r1, r2)) :
    Calls Try.prog 19 #[.slice A0 l0.length c0, .agg #[.int .i64 a1_0, .int .i64 a1_1, .int .i64 a1_2, .int .i64 a1_3, .slice A1_4 l1_4.length c1_4], .string a2] w fun e w' => e = .returned (.tuple #[.int .i64 r1, .bool r2]) ∧ Below w.heap.size w w' := by
 have hu24 := Try.underlying24
 have hu62 := Try.underlying62
 have HR0 := Aside0.mk hr0
 have HC0 := Aside0.mk hc0
 clear hr0 hc0
 have HR1_4 := Aside0.mk hr1_4
 have HC1_4 := Aside0.mk hc1_4
 clear hr1_4 hc1_4
 have HB := Aside0.mk (Below.refl w.heap.size w)
 have H : (index_Place.l0 k l0 a2 (-1) false l1_4 (l1_4.length : Int) 0 a1_0 a1_1 a1_2 a1_3 l1_4) = some (r1, r2) := h
 clear h
 have H' := Aside0.mk H
 clear H
 go_enter Try.func19, Try.ntmps19
 go_wp2_with (first | ((with_reducible refine gate_dst (N := 4) rfl ?_); refine box_event ?hg (N := 4) ?hd (cs := #[.int .i64 a1_0, .int .i64 a1_1, .int .i64 a1_2, .int .i64 a1_3, .slice A1_4 l1_4.length c1_4]) (t := 24) ?hr ?_; (case hd => rfl); (case hg => rfl); (case hr => first | (go_simp; done) | (go_simp; rfl)); intro gb120 hg w4 hbox hb; have n0_ := Aside0.mk (below_step qh_ hb); have n1_ := Aside0.mk (hbox); have n2_ := Aside0.mk ((by rw [hg]; exact (below_size qh_) : w.heap.size ≤ gb120)); have n3_ := Aside0.mk ((by rw [hg]; exact (below_size qh_) : w.heap.size ≤ gb120)); clear HB; have HB := n0_; have BK120 := n1_; have GW120 := n2_; have GE120 := n3_; clear n0_ n1_ n2_ n3_; clear hb hbox hg; have hcz5_0 : w4.cell? ⟨gb120, 0, none⟩ = some (.int .i64 a1_0) := (blk_cell BK120.out 0).trans rfl; have hcz5_1 : w4.cell? ⟨gb120, 1, none⟩ = some (.int .i64 a1_1) := (blk_cell BK120.out 1).trans rfl; have hcz5_2 : w4.cell? ⟨gb120, 2, none⟩ = some (.int .i64 a1_2) := (blk_cell BK120.out 2).trans rfl; have hcz5_3 : w4.cell? ⟨gb120, 3, none⟩ = some (.int .i64 a1_3) := (blk_cell BK120.out 3).trans rfl; have hcz5_4 : w4.cell? ⟨gb120, 4, none⟩ = some (.slice A1_4 l1_4.length c1_4) := (blk_cell BK120.out 4).trans rfl; have hfz5_0 := blk_frozen BK120.out 0; have hfz5_1 := blk_frozen BK120.out 1; have hfz5_2 := blk_frozen BK120.out 2; have hfz5_3 := blk_frozen BK120.out 3; have hfz5_4 := blk_frozen BK120.out 4))
 go_loopg [6, 7, 15] k (fun kq v6 v7 v15 w' => ∃ (x6_1 : Int) (x7_1 : Bool) (x15_1 : Int), v6 = .int .i64 x6_1 ∧ v7 = .bool x7_1 ∧ v15 = .int .i64 x15_1 ∧ Aside0 (index_Place.l0 kq l0 a2 x6_1 x7_1 l1_4 (l1_4.length : Int) x15_1 a1_0 a1_1 a1_2 a1_3 l1_4 = some (r1, r2)) ∧ Aside0 (kq ≤ k) ∧ Aside0 (w'.heap[gb120]? = some (.cells #[.int .i64 a1_0, .int .i64 a1_1, .int .i64 a1_2, .int .i64 a1_3, (.slice A1_4 l1_4.length c1_4)] 24 (0, 0))) ∧ Aside0 (Below w.heap.size w w'))
 case atStart => exact ⟨((-1)), (false), (0), (by first | rfl | (simp; done) | (simp [*]; done)), (by first | rfl | (simp; done) | (simp [*]; done)), (by first | rfl | (simp; done) | (simp [*]; done)), H', ⟨Nat.le_refl _⟩, ⟨by (with_reducible repeat (first | refine blk_drewN ?_ _ | refine blk_drew ?_ | refine blk_alloc ?_ _)); exact BK120.out⟩, ⟨by repeat (first | (with_reducible first | exact HB.out | apply below_alloc | apply pw_below_drewN | apply below_drew1 | refine below_set ?_ GE120.out) | exact HB.out)⟩⟩
 case round =>
  clear H'
  try clear c1
  try clear p2
  try clear hcz5_0
  try clear hcz5_1
  try clear hcz5_2
  try clear hcz5_3
  try clear hcz5_4
  try clear hfz5_0
  try clear hfz5_1
  try clear hfz5_2
  try clear hfz5_3
  try clear hfz5_4
  obtain ⟨x6_1, x7_1, x15_1, rfl, rfl, rfl, HA, HK1, BK120, HB⟩ := hrel
  cases gk with
  | zero => exact absurd HA.out (by simp [index_Place.l0])
  | succ k1 =>
   have H := HA.out
   clear HA
   simp only [index_Place.l0] at H
   by_cases c6 : x15_1 < (l1_4.length : Int)
   rw [if_pos c6] at H
   have c6b0 : decide (x15_1 < (l1_4.length : Int)) = true := decide_eq_true c6
   clear c6
   by_cases cv1 : 0 ≤ x15_1
   rw [if_pos cv1] at H
   have c7b0 : decide (0 ≤ x15_1) = true := decide_eq_true cv1
   clear cv1
   by_cases cv2 : x15_1 < (l1_4.length : Int)
   · rw [if_pos cv2] at H
     have c8b0 : decide (x15_1 < (l1_4.length : Int)) = true := decide_eq_true cv2
     clear cv2
     replace H := Option.bind_eq_some_iff.mp H
     obtain ⟨⟨tv1, tv2, tv3, tv4, tv5⟩, Av1, H⟩ := H
     try dsimp only at H
     have Av2 := Aside0.mk Av1
     clear Av1
     have HCv1 := Aside0.mk H
     clear H
     have pv1 : 0 ≤ (x15_1 : Int) := of_decide_eq_true (by first | (with_reducible assumption) | assumption)
     have qv1 : x15_1 < (l1_4.length : Int) := of_decide_eq_true (by first | (with_reducible assumption) | assumption)
     obtain ⟨adv1, ev1, hxv1⟩ := Kd.at_int HR1_4.out x15_1 pv1 qv1
     cases ev1
     replace hxv1 := kc_ HB.out hxv1
     replace pv1 := eq_true pv1
     replace qv1 := eq_true qv1
     go_upto_region 6 with (first | ((with_reducible refine gate_callee (f := 44) rfl ?_); refine goesL_ (some 23) rfl rfl Try.func44 (by kernel_rfl) rfl #[.slice A0 l0.length c0, .int .i64 (rd l1_4 x15_1)] rfl qm_ ?_; (with_reducible refine (rec_Read.calls _ _ l0 (rd l1_4 x15_1) tv1 tv2 tv3 tv4 tv5 _ ?side1 ?side2 Av2.out).mono ?_); (case side1 => repeat (first | exact (Kd.C_below HR0.out HB.out) | (with_reducible refine Kd.C_alloc ?_ _) | (with_reducible refine Kd.C_drewN ?_ _) | (with_reducible refine Kd.C_drew ?_))); (case side2 => exact HC0.out); rintro e wv1 ⟨rfl, hb⟩; refine ⟨_, rfl, ?_⟩; have n0_ := Aside0.mk (blk_below (g := gb120) (o := .cells #[.int .i64 a1_0, .int .i64 a1_1, .int .i64 a1_2, .int .i64 a1_3, .slice (some adv1) l1_4.length c1_4] 24 (0, 0)) (qb_ BK120.out) hb); have n1_ := Aside0.mk (below_step (qg1_ GE120.out) hb); clear BK120; clear HB; have BK120 := n0_; have HB := n1_; clear n0_ n1_; (try clear hb); (try clear hbv1); (try clear hk); (try clear hi)) | ((with_reducible refine gate_dst (N := 10) rfl ?_); refine box_event ?hg (N := 10) ?hd (cs := #[.int .i64 0, .string (⟨#[]⟩ : ByteArray), .string (⟨#[]⟩ : ByteArray), .int .i64 0]) (t := 62) ?hr ?_; (case hd => rfl); (case hg => rfl); (case hr => first | (go_simp; done) | (go_simp; rfl)); intro gbv1 hg wv2 hbox hb; have n0_ := Aside0.mk (blk_below (g := gb120) (o := .cells #[.int .i64 a1_0, .int .i64 a1_1, .int .i64 a1_2, .int .i64 a1_3, .slice (some adv1) l1_4.length c1_4] 24 (0, 0)) (qb_ BK120.out) hb); have n1_ := Aside0.mk (below_step (qg1_ GE120.out) hb); have n2_ := Aside0.mk (hbox); have n3_ := Aside0.mk ((by rw [hg]; exact (below_size (qg1_ GE120.out)) : w.heap.size ≤ gbv1)); have n4_ := Aside0.mk ((by rw [hg]; exact (below_size (qg1_ GE120.out)) : w.heap.size ≤ gbv1)); have n5_ := Aside0.mk ((by rw [hg]; exact Nat.ne_of_lt (blk_lt (g := gb120) (o := .cells #[.int .i64 a1_0, .int .i64 a1_1, .int .i64 a1_2, .int .i64 a1_3, .slice (some adv1) l1_4.length c1_4] 24 (0, 0)) (qb_ BK120.out)) : gb120 ≠ gbv1)); have n6_ := Aside0.mk ((by rw [hg]; exact Nat.ne_of_gt (blk_lt (g := gb120) (o := .cells #[.int .i64 a1_0, .int .i64 a1_1, .int .i64 a1_2, .int .i64 a1_3, .slice (some adv1) l1_4.length c1_4] 24 (0, 0)) (qb_ BK120.out)) : gbv1 ≠ gb120)); clear BK120; clear HB; have BK120 := n0_; have HB := n1_; have BKv1 := n2_; have GWv1 := n3_; have GEv1 := n4_; have NBv1 := n5_; have NBv2 := n6_; clear n0_ n1_ n2_ n3_ n4_ n5_ n6_; clear hb hbox hg; have hnbv1 := NBv2.out; have hncv1 := NBv1.out; have hczv1 : wv2.cell? ⟨gbv1, 0, none⟩ = some (.int .i64 0) := (blk_cell BKv1.out 0).trans rfl; have hczv2 : wv2.cell? ⟨gbv1, 1, none⟩ = some (.string (⟨#[]⟩ : ByteArray)) := (blk_cell BKv1.out 1).trans rfl; have hczv3 : wv2.cell? ⟨gbv1, 2, none⟩ = some (.string (⟨#[]⟩ : ByteArray)) := (blk_cell BKv1.out 2).trans rfl; have hczv4 : wv2.cell? ⟨gbv1, 3, none⟩ = some (.int .i64 0) := (blk_cell BKv1.out 3).trans rfl; have hfzv1 := blk_frozen BKv1.out 0; have hfzv2 := blk_frozen BKv1.out 1; have hfzv3 := blk_frozen BKv1.out 2; have hfzv4 := blk_frozen BKv1.out 3))
     (try simp only [Act.put, List.setIfInBounds_toArray, List.set_cons_zero, List.set_cons_succ])
     go_cut [26] (fun vv1 wc => ∃ (kq : Nat) (xv1 : Bool), vv1 = .bool xv1 ∧ Aside0 (index_Place.j1 kq l0 a2 x6_1 x7_1 x15_1 l1_4 (l1_4.length : Int) x15_1 xv1 a1_0 a1_1 a1_2 a1_3 l1_4 tv1 tv2 tv3 tv4 = some (r1, r2)) ∧ Aside0 (kq ≤ k1) ∧ Aside0 (wc.heap[gb120]? = some (.cells #[.int .i64 a1_0, .int .i64 a1_1, .int .i64 a1_2, .int .i64 a1_3, (.slice (some adv1) l1_4.length c1_4)] 24 (0, 0))) ∧ Aside0 (wc.heap[gbv1]? = some (.cells #[.int .i64 tv1, .string tv2, .string tv3, .int .i64 tv4] 62 (0, 0))) ∧ Aside0 (Below w.heap.size w wc))
     case first =>
      have H := HCv1.out
      clear HCv1
      by_cases cv3 : tv5 = 0
      rotate_left
      · rw [if_neg cv3] at H
        have c15b0 : (tv5 == 0) = false := beq_eq_false_iff_ne.mpr cv3
        have c15b1 : (tv5 != 0) = true := bne_iff_ne.mpr cv3
        (first | rw [c15b0] | (simp only [i64_w, i32_w]; rw [c15b0]) | skip)
        have H' := Aside0.mk H
        clear H
        go_wp2
        go_meet
        case rel => exact ⟨_, (true), (by first | rfl | (simp; done) | (simp [*]; done)), H', ⟨by have := HK1.out; first | omega | exact Nat.le_refl _⟩, ⟨by (with_reducible repeat (first | refine blk_drewN ?_ _ | refine blk_drew ?_ | refine blk_alloc ?_ _)); refine blk_far ?_ NBv1.out _; (with_reducible repeat (first | refine blk_drewN ?_ _ | refine blk_drew ?_ | refine blk_alloc ?_ _)); refine blk_far ?_ NBv1.out _; (with_reducible repeat (first | refine blk_drewN ?_ _ | refine blk_drew ?_ | refine blk_alloc ?_ _)); refine blk_far ?_ NBv1.out _; (with_reducible repeat (first | refine blk_drewN ?_ _ | refine blk_drew ?_ | refine blk_alloc ?_ _)); refine blk_far ?_ NBv1.out _; (with_reducible repeat (first | refine blk_drewN ?_ _ | refine blk_drew ?_ | refine blk_alloc ?_ _)); exact BK120.out⟩, ⟨by (with_reducible repeat (first | refine blk_drewN ?_ _ | refine blk_drew ?_ | refine blk_alloc ?_ _)); refine blk_put (cs := #[.int .i64 tv1, .string tv2, .string tv3, .int .i64 0]) ?_ 3 _ rfl; (with_reducible repeat (first | refine blk_drewN ?_ _ | refine blk_drew ?_ | refine blk_alloc ?_ _)); refine blk_put (cs := #[.int .i64 tv1, .string tv2, .string (⟨#[]⟩ : ByteArray), .int .i64 0]) ?_ 2 _ rfl; (with_reducible repeat (first | refine blk_drewN ?_ _ | refine blk_drew ?_ | refine blk_alloc ?_ _)); refine blk_put (cs := #[.int .i64 tv1, .string (⟨#[]⟩ : ByteArray), .string (⟨#[]⟩ : ByteArray), .int .i64 0]) ?_ 1 _ rfl; (with_reducible repeat (first | refine blk_drewN ?_ _ | refine blk_drew ?_ | refine blk_alloc ?_ _)); refine blk_put (cs := #[.int .i64 0, .string (⟨#[]⟩ : ByteArray), .string (⟨#[]⟩ : ByteArray), .int .i64 0]) ?_ 0 _ rfl; (with_reducible repeat (first | refine blk_drewN ?_ _ | refine blk_drew ?_ | refine blk_alloc ?_ _)); exact BKv1.out⟩, ⟨by repeat (first | (with_reducible first | exact HB.out | apply below_alloc | apply pw_below_drewN | apply below_drew1 | refine below_set ?_ GE120.out | refine below_set ?_ GEv1.out) | exact HB.out)⟩⟩
      rw [if_pos cv3] at H
      have c15b0 : (tv5 == 0) = true := beq_iff_eq.mpr cv3
      have c15b1 : (tv5 != 0) = false := bne_eq_false_iff_eq.mpr cv3
      clear cv3
      (first | rw [c15b0] | (simp only [i64_w, i32_w]; rw [c15b0]) | skip)
      have H' := Aside0.mk H
      clear H
      have hnbv2 := NBv2.out
      have hncv2 := NBv1.out
      have hczv5 : wv2.cell? ⟨gbv1, 0, none⟩ = some (.int .i64 0) := (blk_cell BKv1.out 0).trans rfl
      have hczv6 : wv2.cell? ⟨gbv1, 1, none⟩ = some (.string (⟨#[]⟩ : ByteArray)) := (blk_cell BKv1.out 1).trans rfl
      have hczv7 : wv2.cell? ⟨gbv1, 2, none⟩ = some (.string (⟨#[]⟩ : ByteArray)) := (blk_cell BKv1.out 2).trans rfl
      have hczv8 : wv2.cell? ⟨gbv1, 3, none⟩ = some (.int .i64 0) := (blk_cell BKv1.out 3).trans rfl
      have hfzv5 := blk_frozen BKv1.out 0
      have hfzv6 := blk_frozen BKv1.out 1
      have hfzv7 := blk_frozen BKv1.out 2
      have hfzv8 := blk_frozen BKv1.out 3
      go_wp2
      go_meet
      case rel => exact ⟨_, ((Op.bytesLess tv2.toList a2.toList)), (by first | rfl | (simp; done) | (simp [*]; done)), H', ⟨by have := HK1.out; first | omega | exact Nat.le_refl _⟩, ⟨by (with_reducible repeat (first | refine blk_drewN ?_ _ | refine blk_drew ?_ | refine blk_alloc ?_ _)); refine blk_far ?_ NBv1.out _; (with_reducible repeat (first | refine blk_drewN ?_ _ | refine blk_drew ?_ | refine blk_alloc ?_ _)); refine blk_far ?_ NBv1.out _; (with_reducible repeat (first | refine blk_drewN ?_ _ | refine blk_drew ?_ | refine blk_alloc ?_ _)); refine blk_far ?_ NBv1.out _; (with_reducible repeat (first | refine blk_drewN ?_ _ | refine blk_drew ?_ | refine blk_alloc ?_ _)); refine blk_far ?_ NBv1.out _; (with_reducible repeat (first | refine blk_drewN ?_ _ | refine blk_drew ?_ | refine blk_alloc ?_ _)); exact BK120.out⟩, ⟨by (with_reducible repeat (first | refine blk_drewN ?_ _ | refine blk_drew ?_ | refine blk_alloc ?_ _)); refine blk_put (cs := #[.int .i64 tv1, .string tv2, .string tv3, .int .i64 0]) ?_ 3 _ rfl; (with_reducible repeat (first | refine blk_drewN ?_ _ | refine blk_drew ?_ | refine blk_alloc ?_ _)); refine blk_put (cs := #[.int .i64 tv1, .string tv2, .string (⟨#[]⟩ : ByteArray), .int .i64 0]) ?_ 2 _ rfl; (with_reducible repeat (first | refine blk_drewN ?_ _ | refine blk_drew ?_ | refine blk_alloc ?_ _)); refine blk_put (cs := #[.int .i64 tv1, .string (⟨#[]⟩ : ByteArray), .string (⟨#[]⟩ : ByteArray), .int .i64 0]) ?_ 1 _ rfl; (with_reducible repeat (first | refine blk_drewN ?_ _ | refine blk_drew ?_ | refine blk_alloc ?_ _)); refine blk_put (cs := #[.int .i64 0, .string (⟨#[]⟩ : ByteArray), .string (⟨#[]⟩ : ByteArray), .int .i64 0]) ?_ 0 _ rfl; (with_reducible repeat (first | refine blk_drewN ?_ _ | refine blk_drew ?_ | refine blk_alloc ?_ _)); exact BKv1.out⟩, ⟨by repeat (first | (with_reducible first | exact HB.out | apply below_alloc | apply pw_below_drewN | apply below_drew1 | refine below_set ?_ GE120.out | refine below_set ?_ GEv1.out) | exact HB.out)⟩⟩
     case rest =>
      clear HCv1
      try clear c1
      try clear pv2
      try clear qv2
      try clear hxv2
      try clear p2
      try clear cv4
      try clear c6
      try clear c6b0
      try clear cv1
      try clear c7b0
      try clear cv2
      try clear c8b0
      try clear pv3
      try clear qv3
      try clear hxv3
      try clear cv5
      try clear cv3
      try clear c15b0
      try clear c15b1
      try clear cv6
      try clear hczv1
      try clear hczv2
      try clear hczv3
      try clear hczv4
      try clear hczv5
      try clear hczv6
      try clear hczv7
      try clear hczv8
      try clear hcz5_0
      try clear hcz5_1
      try clear hcz5_2
      try clear hcz5_3
      try clear hcz5_4
      try clear hfzv1
      try clear hfzv2
      try clear hfzv3
      try clear hfzv4
      try clear hfzv5
      try clear hfzv6
      try clear hfzv7
      try clear hfzv8
      try clear hfz5_0
      try clear hfz5_1
      try clear hfz5_2
      try clear hfz5_3
      try clear hfz5_4
      try clear hxv1
      try clear pv1
      try clear p2
      try clear qv1
      obtain ⟨kq, xv1, rfl, HA, HJv1, BK120, BKv1, HB⟩ := hcut
      cases kq with
      | zero => exact absurd HA.out (by simp [index_Place.j1])
      | succ kjv1 =>
       have H := HA.out
       clear HA
       simp only [index_Place.j1] at H
       by_cases cv7 : xv1 = true
       subst cv7
       have Hv1 : (index_Place.l0 kjv1 l0 a2 x6_1 x7_1 l1_4 (l1_4.length : Int) (wrap64 (x15_1 + 1)) a1_0 a1_1 a1_2 a1_3 l1_4) = some (r1, r2) := by rw [if_pos rfl] at H; exact H
       clear H
       have H := Hv1
       clear Hv1
       have H' := Aside0.mk H
       clear H
       have hq0 := Aside0.mk True.intro
       rotate_left
       replace cv7 := Bool.eq_false_iff.mpr cv7
       subst cv7
       have Hv1 : (if tv2.toList = a2.toList then (some (x15_1, true)) else (if x6_1 < 0 then (index_Place.l0 kjv1 l0 a2 x15_1 x7_1 l1_4 (l1_4.length : Int) (wrap64 (x15_1 + 1)) a1_0 a1_1 a1_2 a1_3 l1_4) else (index_Place.l0 kjv1 l0 a2 x6_1 x7_1 l1_4 (l1_4.length : Int) (wrap64 (x15_1 + 1)) a1_0 a1_1 a1_2 a1_3 l1_4))) = some (r1, r2) := by rw [if_neg (show ¬ (false = true) by decide)] at H; exact H
       clear H
       have H := Hv1
       clear Hv1
       by_cases cv8 : tv2.toList = a2.toList
       · rw [if_pos cv8] at H
         have c19b0 : (tv2.toList == a2.toList) = true := beq_iff_eq.mpr cv8
         have c19b1 : (tv2.toList != a2.toList) = false := bne_eq_false_iff_eq.mpr cv8
         clear cv8
         simp only [Option.some.injEq, Prod.mk.injEq] at H
         obtain ⟨rfl, rfl⟩ := H
         have hnbv3 := NBv2.out
         have hncv3 := NBv1.out
         have hczv9 : wc.cell? ⟨gbv1, 0, none⟩ = some (.int .i64 tv1) := (blk_cell BKv1.out 0).trans rfl
         have hczv10 : wc.cell? ⟨gbv1, 1, none⟩ = some (.string tv2) := (blk_cell BKv1.out 1).trans rfl
         have hczv11 : wc.cell? ⟨gbv1, 2, none⟩ = some (.string tv3) := (blk_cell BKv1.out 2).trans rfl
         have hczv12 : wc.cell? ⟨gbv1, 3, none⟩ = some (.int .i64 tv4) := (blk_cell BKv1.out 3).trans rfl
         have hfzv9 := blk_frozen BKv1.out 0
         have hfzv10 := blk_frozen BKv1.out 1
         have hfzv11 := blk_frozen BKv1.out 2
         have hfzv12 := blk_frozen BKv1.out 3
         go_wp2
         go_ret2
         exact ⟨qe_, by repeat (first | (with_reducible first | exact HB.out | apply below_alloc | apply pw_below_drewN | apply below_drew1 | refine below_set ?_ GE120.out | refine below_set ?_ GEv1.out) | exact HB.out)⟩
       rw [if_neg cv8] at H
       have c19b0 : (tv2.toList == a2.toList) = false := beq_eq_false_iff_ne.mpr cv8
       have c19b1 : (tv2.toList != a2.toList) = true := bne_iff_ne.mpr cv8
       by_cases cv9 : x6_1 < 0
       · rw [if_pos cv9] at H
         have c22b0 : decide (x6_1 < 0) = true := decide_eq_true cv9
         clear cv9
         have H' := Aside0.mk H
         clear H
         have hnbv3 := NBv2.out
         have hncv3 := NBv1.out
         have hczv9 : wc.cell? ⟨gbv1, 0, none⟩ = some (.int .i64 tv1) := (blk_cell BKv1.out 0).trans rfl
         have hczv10 : wc.cell? ⟨gbv1, 1, none⟩ = some (.string tv2) := (blk_cell BKv1.out 1).trans rfl
         have hczv11 : wc.cell? ⟨gbv1, 2, none⟩ = some (.string tv3) := (blk_cell BKv1.out 2).trans rfl
         have hczv12 : wc.cell? ⟨gbv1, 3, none⟩ = some (.int .i64 tv4) := (blk_cell BKv1.out 3).trans rfl
         have hfzv9 := blk_frozen BKv1.out 0
         have hfzv10 := blk_frozen BKv1.out 1
         have hfzv11 := blk_frozen BKv1.out 2
         have hfzv12 := blk_frozen BKv1.out 3
         go_wp2
         go_roundg kjv1
         case measure => have := HK1.out; have := HJv1.out; omega
         case rel => exact ⟨(x15_1), (x7_1), (wrap64 (x15_1 + 1)), (by first | rfl | (simp; done) | (simp [*]; done)), (by first | rfl | (simp; done) | (simp [*]; done)), (by first | rfl | (simp; done) | (simp [*]; done)), H', ⟨by have := HK1.out; have := HJv1.out; omega⟩, ⟨by (with_reducible repeat (first | refine blk_drewN ?_ _ | refine blk_drew ?_ | refine blk_alloc ?_ _)); exact BK120.out⟩, ⟨by repeat (first | (with_reducible first | exact HB.out | apply below_alloc | apply pw_below_drewN | apply below_drew1 | refine below_set ?_ GE120.out | refine below_set ?_ GEv1.out) | exact HB.out)⟩⟩
       rw [if_neg cv9] at H
       have c22b0 : decide (x6_1 < 0) = false := decide_eq_false cv9
       clear cv9
       have H' := Aside0.mk H
       clear H
       have hnbv3 := NBv2.out
       have hncv3 := NBv1.out
       have hczv9 : wc.cell? ⟨gbv1, 0, none⟩ = some (.int .i64 tv1) := (blk_cell BKv1.out 0).trans rfl
       have hczv10 : wc.cell? ⟨gbv1, 1, none⟩ = some (.string tv2) := (blk_cell BKv1.out 1).trans rfl
       have hczv11 : wc.cell? ⟨gbv1, 2, none⟩ = some (.string tv3) := (blk_cell BKv1.out 2).trans rfl
       have hczv12 : wc.cell? ⟨gbv1, 3, none⟩ = some (.int .i64 tv4) := (blk_cell BKv1.out 3).trans rfl
       have hfzv9 := blk_frozen BKv1.out 0
       have hfzv10 := blk_frozen BKv1.out 1
       have hfzv11 := blk_frozen BKv1.out 2
       have hfzv12 := blk_frozen BKv1.out 3
       have hq0 := Aside0.mk True.intro
       rotate_left
       all_goals first
         | (clear hq0
            go_wp2
            go_roundg kjv1
            case measure => have := HK1.out; have := HJv1.out; omega
            case rel => exact ⟨(x6_1), (x7_1), (wrap64 (x15_1 + 1)), (by first | rfl | (simp; done) | (simp [*]; done)), (by first | rfl | (simp; done) | (simp [*]; done)), (by first | rfl | (simp; done) | (simp [*]; done)), H', ⟨by have := HK1.out; have := HJv1.out; omega⟩, ⟨by (with_reducible repeat (first | refine blk_drewN ?_ _ | refine blk_drew ?_ | refine blk_alloc ?_ _)); exact BK120.out⟩, ⟨by repeat (first | (with_reducible first | exact HB.out | apply below_alloc | apply pw_below_drewN | apply below_drew1 | refine below_set ?_ GE120.out | refine below_set ?_ GEv1.out) | exact HB.out)⟩⟩)
   · rw [if_neg cv2] at H
     exact absurd H (by simp)
   · rw [if_neg cv1] at H
     exact absurd H (by simp)
   rw [if_neg c6] at H
   have c6b0 : decide (x15_1 < (l1_4.length : Int)) = false := decide_eq_false c6
   clear c6
   by_cases cv1 : x6_1 < 0
   rw [if_pos cv1] at H
   have c27b0 : decide (x6_1 < 0) = true := decide_eq_true cv1
   clear cv1
   simp only [Option.some.injEq, Prod.mk.injEq] at H
   obtain ⟨rfl, rfl⟩ := H
   have hczv1 : wr.cell? ⟨gb120, 0, none⟩ = some (.int .i64 a1_0) := (blk_cell BK120.out 0).trans rfl
   have hczv2 : wr.cell? ⟨gb120, 1, none⟩ = some (.int .i64 a1_1) := (blk_cell BK120.out 1).trans rfl
   have hczv3 : wr.cell? ⟨gb120, 2, none⟩ = some (.int .i64 a1_2) := (blk_cell BK120.out 2).trans rfl
   have hczv4 : wr.cell? ⟨gb120, 3, none⟩ = some (.int .i64 a1_3) := (blk_cell BK120.out 3).trans rfl
   have hczv5 : wr.cell? ⟨gb120, 4, none⟩ = some (.slice A1_4 l1_4.length c1_4) := (blk_cell BK120.out 4).trans rfl
   have hfzv1 := blk_frozen BK120.out 0
   have hfzv2 := blk_frozen BK120.out 1
   have hfzv3 := blk_frozen BK120.out 2
   have hfzv4 := blk_frozen BK120.out 3
   have hfzv5 := blk_frozen BK120.out 4
   have hq0 := Aside0.mk True.intro
   rotate_left
   rw [if_neg cv1] at H
   have c27b0 : decide (x6_1 < 0) = false := decide_eq_false cv1
   clear cv1
   simp only [Option.some.injEq, Prod.mk.injEq] at H
   obtain ⟨rfl, rfl⟩ := H
   have hq0 := Aside0.mk True.intro
   rotate_left
   all_goals first
     | (clear hq0
        go_wp2
        go_ret2
        exact ⟨qe_, by repeat (first | (with_reducible first | exact HB.out | apply below_alloc | apply pw_below_drewN | apply below_drew1 | refine below_set ?_ GE120.out) | exact HB.out)⟩)
end
end Go.Proofs.Ytliaemoomhfcdaa.ID
namespace Go.Proofs.Ytliaemoomhfcdaa
open Go.RowKit Go.Proofs.YtliaemoomhfcdaaW.PrintWords
set_option maxHeartbeats 2000000
set_option maxRecDepth 100000
set_option linter.unusedVariables false
set_option linter.unusedSimpArgs false

theorem rec_f (ws : List Int) (b : Int) (hn : ws.length ≤ 1000000000) : ID.rec_Read.f ws b = some ((recRead ws b).1.kind, (recRead ws b).1.key, (recRead ws b).1.val, (recRead ws b).1.child, (recRead ws b).2) := by
 unfold ID.rec_Read.f; rw [if_pos hn]
theorem node_f (ws : List Int) (b : Int) (hn : ws.length ≤ 1000000000) : ID.node_Read.f ws b = some (PNode.flat (nodeRead ws b)) := by
 unfold ID.node_Read.f; rw [if_pos hn]
theorem low_f (ws : List Int) (b : Int) (hn : ws.length ≤ 1000000000) : ID.arena_Low.f ws b = some (lowRead ws b) := by
 unfold ID.arena_Low.f; rw [if_pos hn]
/-- A node's level, from which key on it is, and whether there is one. -/
def fromRead (ws : List Int) (b : Int) : Int × ByteArray × Bool :=
  if (nodeRead ws b).2 = 0 then ((nodeRead ws b).1.level, (lowRead ws b).1, ((lowRead ws b).2 == 0)) else (0, ⟨#[]⟩, false)
theorem from_f (ws : List Int) (b : Int) (hn : ws.length ≤ 1000000000) : ID.index_from.f ws b = some (fromRead ws b) := by
 unfold ID.index_from.f fromRead
 rw [node_f ws b hn]
 simp only [Option.bind_some, PNode.flat]
 by_cases h : (nodeRead ws b).2 = 0
 · rw [if_pos h, if_pos h, low_f ws b hn]; rfl
 rw [if_neg h, if_neg h]
theorem from_any (A : Option Addr) (c : Nat) (ws : List Int) (b : Int) (w : World) (h : Kd.C (Kd.int .i64) w A ws.length ws) (hc : ws.length ≤ c) (hn : ws.length ≤ 1000000000) :
    Calls Try.prog 39 #[.slice A ws.length c, .int .i64 b] w fun e w' => e = .returned (.tuple #[.int .i64 (fromRead ws b).1, .string (fromRead ws b).2.1, .bool (fromRead ws b).2.2]) ∧ Below w.heap.size w w' :=
  ID.index_from.calls A c ws b _ _ _ w h hc (from_f ws b hn)
def childStep (ws : List Int) (key : ByteArray) (c s : Int) : Int :=
  if (recRead ws s).2 = 0 then (if (recRead ws s).1.kind = 2 then (if ltS key (recRead ws s).1.key = true then c else (recRead ws s).1.child) else c) else c
/-- The child that a key is to be looked for in. -/
def childOf (ws : List Int) (sl : List Int) (key : ByteArray) : Int := sl.foldl (childStep ws key) 0
theorem rd_drop {l : List Int} {i : Nat} (h : i < l.length) : l.drop i = rd l (i : Int) :: l.drop (i + 1) := drop_cons_ h
theorem wrap_succ {i n : Nat} (h : i < n) (hn : n ≤ 1000000000) : wrap64 ((i : Int) + 1) = ((i + 1 : Nat) : Int) := by rw [w64_id (by omega) (by omega)]; rfl
theorem child_l0 (ws sl : List Int) (key : ByteArray) (hn : ws.length ≤ 1000000000) (hs : sl.length ≤ 1000000000) : ∀ (d i : Nat) (c : Int), sl.length - i = d → i ≤ sl.length → ∀ k, d < k →
    ID.index_child.l0 k ws key c sl (sl.length : Int) (i : Int) = some ((sl.drop i).foldl (childStep ws key) c) := by
 intro d
 induction d with
 | zero =>
  intro i c hd hi k hk
  obtain ⟨k, rfl⟩ : ∃ m, k = m + 1 := ⟨k - 1, by omega⟩
  simp only [ID.index_child.l0]
  rw [if_neg (by omega), List.drop_eq_nil_of_le (by omega)]
  rfl
 | succ d ih =>
  intro i c hd hi k hk
  obtain ⟨k, rfl⟩ : ∃ m, k = m + 1 := ⟨k - 1, by omega⟩
  have hlt : i < sl.length := by omega
  have hw := wrap_succ hlt hs
  have g := fun c => ih (i + 1) c (by omega) (by omega) k (by omega)
  simp only [ID.index_child.l0]
  rw [if_pos (by omega), if_pos (by omega), if_pos (by omega), rec_f _ _ hn, rd_drop hlt, hw]
  simp only [Option.bind_some, List.foldl_cons]
  rw [show (childStep ws key c (rd sl (i : Int))) = (if (recRead ws (rd sl (i : Int))).2 = 0 then (if (recRead ws (rd sl (i : Int))).1.kind = 2 then (if ltS key (recRead ws (rd sl (i : Int))).1.key = true then c else (recRead ws (rd sl (i : Int))).1.child) else c) else c) from rfl]
  unfold ltS
  split
  · split
    · split <;> exact g _
    exact g _
  exact g _
theorem child_any (A : Option Addr) (c : Nat) (ws : List Int) (a1 a2 a3 a4 : Int) (A1 : Option Addr) (c1 : Nat) (sl : List Int) (key : ByteArray) (w : World) (h : Kd.C (Kd.int .i64) w A ws.length ws) (hc : ws.length ≤ c) (hn : ws.length ≤ 1000000000)
    (h1 : Kd.C (Kd.int .i64) w A1 sl.length sl) (hc1 : sl.length ≤ c1) (hs : sl.length ≤ 1000000000) :
    Calls Try.prog 40 #[.slice A ws.length c, .agg #[.int .i64 a1, .int .i64 a2, .int .i64 a3, .int .i64 a4, .slice A1 sl.length c1], .string key] w fun e w' => e = .returned (.int .i64 (childOf ws sl key)) ∧ Below w.heap.size w w' :=
  ID.index_child.calls (sl.length + 1) A c ws a1 a2 a3 a4 A1 c1 sl key _ w h hc h1 hc1 (by
    unfold ID.index_child.f
    have := child_l0 ws sl key hn hs sl.length 0 0 (by omega) (by omega) (sl.length + 1) (by omega)
    exact this)
/-- A key's place among slots: the place of the first one behind it so far, and the slots that are left. -/
def placeGo (ws : List Int) (key : ByteArray) (len : Int) : List Int → Int → Int → Int × Bool
  | [], _, at' => (if at' < 0 then len else at', false)
  | s :: t, i, at' =>
    if (recRead ws s).2 = 0 then
      (if ltS (recRead ws s).1.key key = true then placeGo ws key len t (i + 1) at'
       else if (recRead ws s).1.key.toList = key.toList then (i, true) else placeGo ws key len t (i + 1) (if at' < 0 then i else at'))
    else placeGo ws key len t (i + 1) at'
def placeOf (ws : List Int) (sl : List Int) (key : ByteArray) : Int × Bool := placeGo ws key (sl.length : Int) sl 0 (-1)
theorem place_l0 (ws sl : List Int) (key : ByteArray) (a1 a2 a3 a4 : Int) (hn : ws.length ≤ 1000000000) (hs : sl.length ≤ 1000000000) : ∀ (d i : Nat) (x : Int), sl.length - i = d → i ≤ sl.length → ∀ k, 2 * d < k →
    ID.index_Place.l0 k ws key x false sl (sl.length : Int) (i : Int) a1 a2 a3 a4 sl = some (placeGo ws key (sl.length : Int) (sl.drop i) (i : Int) x) := by
 intro d
 induction d with
 | zero =>
  intro i x hd hi k hk
  obtain ⟨k, rfl⟩ : ∃ m, k = m + 1 := ⟨k - 1, by omega⟩
  simp only [ID.index_Place.l0]
  rw [if_neg (by omega), List.drop_eq_nil_of_le (by omega)]
  simp only [placeGo]
  split <;> rfl
 | succ d ih =>
  intro i x hd hi k hk
  obtain ⟨k, rfl⟩ : ∃ m, k = m + 1 + 1 := ⟨k - 2, by omega⟩
  have hlt : i < sl.length := by omega
  have hw := wrap_succ hlt hs
  have g := fun x => ih (i + 1) x (by omega) (by omega) k (by omega)
  have e1 : ((i + 1 : Nat) : Int) = (i : Int) + 1 := rfl
  simp only [ID.index_Place.l0]
  rw [if_pos (by omega), if_pos (by omega), if_pos (by omega), rec_f _ _ hn, rd_drop hlt]
  simp only [Option.bind_some, placeGo]
  unfold ltS
  simp only [ID.index_Place.j1]
  rw [hw]
  split
  · split
    · exact g _
    split
    · rfl
    split <;> exact g _
  exact g _
theorem place_any (A : Option Addr) (c : Nat) (ws : List Int) (a1 a2 a3 a4 : Int) (A1 : Option Addr) (c1 : Nat) (sl : List Int) (key : ByteArray) (w : World) (h : Kd.C (Kd.int .i64) w A ws.length ws) (hc : ws.length ≤ c) (hn : ws.length ≤ 1000000000)
    (h1 : Kd.C (Kd.int .i64) w A1 sl.length sl) (hc1 : sl.length ≤ c1) (hs : sl.length ≤ 1000000000) :
    Calls Try.prog 19 #[.slice A ws.length c, .agg #[.int .i64 a1, .int .i64 a2, .int .i64 a3, .int .i64 a4, .slice A1 sl.length c1], .string key] w fun e w' => e = .returned (.tuple #[.int .i64 (placeOf ws sl key).1, .bool (placeOf ws sl key).2]) ∧ Below w.heap.size w w' :=
  ID.index_Place.calls (2 * sl.length + 1) A c ws a1 a2 a3 a4 A1 c1 sl key _ _ w h hc h1 hc1 (by
    unfold ID.index_Place.f
    have := place_l0 ws sl key a1 a2 a3 a4 hn hs sl.length 0 (-1) (by omega) (by omega) (2 * sl.length + 1) (by omega)
    exact this)
theorem nodeRead_ok {ws : List Int} {b : Int} (h : (nodeRead ws b).2 = 0) : 0 ≤ b ∧ b < (ws.length : Int) / 16 ∧ (nodeRead ws b).1 = nodeOf16 (blockOf ws b.toNat) ∧ (nodeOf16 (blockOf ws b.toNat)).ok = true ∧ (nodeOf16 (blockOf ws b.toNat)).words = blockOf ws b.toNat := by
 unfold nodeRead at h ⊢
 by_cases h0 : b < 0
 · rw [if_pos h0] at h; cases h
 rw [if_neg h0] at h ⊢
 by_cases h1 : (ws.length : Int) / 16 ≤ b
 · rw [if_pos h1] at h; cases h
 rw [if_neg h1] at h ⊢
 unfold nodeRead16 at h ⊢
 by_cases h2 : (nodeOf16 (blockOf ws b.toNat)).ok = true ∧ (nodeOf16 (blockOf ws b.toNat)).words = blockOf ws b.toNat
 · rw [if_pos h2]; exact ⟨by omega, by omega, rfl, h2.1, h2.2⟩
 rw [if_neg h2] at h; cases h
theorem nodeOk_parts {x : PNode} (h : x.ok = true) : 0 ≤ x.level ∧ x.level ≤ 9 ∧ 0 ≤ x.turn ∧ x.turn ≤ 1099511627776 ∧ isBlk x.next = true ∧ isBlk x.low = true ∧ x.slots.length ≤ 13 ∧ x.slots.any noSlot = false := by
 unfold PNode.ok nodeOk at h
 simp only [Bool.and_eq_true, decide_eq_true_eq, Bool.not_eq_true'] at h
 obtain ⟨⟨⟨⟨⟨⟨⟨a1, a2⟩, a3⟩, a4⟩, a5⟩, a6⟩, a7⟩, a8⟩ := h
 exact ⟨a1, a2, a3, a4, a5, a6, a7, a8⟩
theorem nodeRead_parts (ws : List Int) (b : Int) (h : (nodeRead ws b).2 = 0) : 0 ≤ (nodeRead ws b).1.level ∧ (nodeRead ws b).1.level ≤ 9 ∧ isBlk (nodeRead ws b).1.next = true ∧ isBlk (nodeRead ws b).1.low = true ∧ (nodeRead ws b).1.slots.length ≤ 13 := by
 obtain ⟨_, _, e, ho, _⟩ := nodeRead_ok h
 rw [e]
 obtain ⟨a1, a2, _, _, a5, a6, a7, _⟩ := nodeOk_parts ho
 exact ⟨a1, a2, a5, a6, a7⟩
theorem nodeRead_slots (ws : List Int) (b : Int) : (nodeRead ws b).1.slots.length ≤ 13 := by
 by_cases h : (nodeRead ws b).2 = 0
 · exact (nodeRead_parts ws b h).2.2.2.2
 unfold nodeRead at h ⊢
 split
 · decide
 rename_i h0; rw [if_neg h0] at h
 split
 · decide
 rename_i h1; rw [if_neg h1] at h
 unfold nodeRead16 at h ⊢
 split
 · rename_i h2; rw [if_pos h2] at h; exact absurd rfl h
 decide
/-- Where a look goes on. -/
def downSide (ws : List Int) (b : Int) (key : ByteArray) (n : PNode) : Option (Int × Int) :=
  if n.next = 0 then none else
  if n.next = b then some (0, 90) else if (fromRead ws n.next).2.2 = false then some (0, 90) else if (fromRead ws n.next).1 ≠ n.level then some (0, 90)
  else if ltS key (fromRead ws n.next).2.1 = true then none else some (n.next, 0)
def downChild (ws : List Int) (b : Int) (key : ByteArray) (lv : Int) (n : PNode) : Int × Int :=
  if lv < n.level then
    (if childOf ws n.slots key = 0 then (0, 90) else if (fromRead ws (childOf ws n.slots key)).2.2 = false then (0, 90) else if (fromRead ws (childOf ws n.slots key)).1 ≠ n.level - 1 then (0, 90)
     else if ltS key (fromRead ws (childOf ws n.slots key)).2.1 = true then (0, 90) else (childOf ws n.slots key, 0))
  else (b, 0)
def downRead (ws : List Int) (b : Int) (key : ByteArray) (lv : Int) : Int × Int :=
  if (nodeRead ws b).2 ≠ 0 then (0, 90) else if (nodeRead ws b).1.level < lv then (0, 90) else
  match downSide ws b key (nodeRead ws b).1 with
  | some r => r
  | none => downChild ws b key lv (nodeRead ws b).1
end Go.Proofs.Ytliaemoomhfcdaa
namespace Go.Proofs.Ytliaemoomhfcdaa
open Go.RowKit Go.Proofs.YtliaemoomhfcdaaW.PrintWords
attribute [local go_sem] le_flip
set_option maxHeartbeats 4000000
set_option maxRecDepth 100000
set_option linter.unusedVariables false
set_option linter.unusedSimpArgs false

theorem jump_ret_ {l : Nat} {J : Act → World → Prop} {Q : Exit → Act → World → Prop} {a : Act} {w : World} : Exit.jump l J Q .ret a w = Q .ret a w := rfl
theorem res_down {tmps : Array Value} {W : World} {x y : Value} (h8 : tmps.getD 8 undef = x) (h9 : tmps.getD 9 undef = y) : (results Try.f15 tmps).run Try.prog W = .ok (.tuple #[x, y]) W := by
 rw [Array.getD_eq_getD_getElem?] at h8 h9
 simp [results, Try.results15, h8, h9, go_sem]
theorem down_any (A : Option Addr) (c : Nat) (ws : List Int) (b : Int) (key : ByteArray) (lv : Int) (w : World) (h : Kd.C (Kd.int .i64) w A ws.length ws) (hc : ws.length ≤ c) (hn : ws.length ≤ 1000000000) :
    Calls Try.prog 15 #[.slice A ws.length c, .int .i64 b, .string key, .int .i64 lv] w fun e w' => e = .returned (.tuple #[.int .i64 (downRead ws b key lv).1, .int .i64 (downRead ws b key lv).2]) ∧ Below w.heap.size w w' := by
 have HN := Lib.hid (fun W hW => nodeRead_any A c ws b W hW hc hn)
 have HF := Lib.hid (fun x W hW => from_any A c ws x W hW hc hn)
 have hch := fun a1 a2 a3 a4 A1 c1 (W : World) hW h1 hc1 => child_any A c ws a1 a2 a3 a4 A1 c1 (nodeRead ws b).1.slots key W hW hc hn h1 hc1 (by have := nodeRead_slots ws b; omega)
 have HCH := Lib.hid hch
 have HC := Lib.hid h
 have hlv : (nodeRead ws b).2 = 0 → 0 ≤ (nodeRead ws b).1.level ∧ (nodeRead ws b).1.level ≤ 9 := fun h => ⟨(nodeRead_parts ws b h).1, (nodeRead_parts ws b h).2.1⟩
 obtain ⟨r1, hr1⟩ : ∃ r, r = (downRead ws b key lv) := ⟨_, rfl⟩
 rw [← hr1]
 unfold downRead downSide downChild at hr1
 clear h hch
 generalize nodeRead ws b = r at hr1 HN HCH hlv
 obtain ⟨⟨nl, tu, ne, lo, sl⟩, er⟩ := r
 simp only at hr1 HN HCH hlv
 have hF1 := HF.out ne
 have hF2 := HF.out (childOf ws sl key)
 clear HF
 generalize fromRead ws ne = f1 at hr1 hF1
 generalize fromRead ws (childOf ws sl key) = f2 at hr1 hF2
 generalize childOf ws sl key = ch at hr1 HCH hF2
 obtain ⟨l1, s1, o1⟩ := f1
 obtain ⟨l2, s2, o2⟩ := f2
 simp only at hr1 hF1 hF2
 have HF1 := Lib.hid hF1
 have HF2 := Lib.hid hF2
 clear hF1 hF2
 have hu24 := Try.underlying24
 have hBl : ∀ {W : World} (o : Obj), Below w.heap.size w W → Below w.heap.size w (W.alloc o) := fun o hb => hb.alloc hb.size o
 go_enter Try.func15, Try.ntmps15
 go_wp2
 refine wp_scope_jumps (l := 0) (fun a W => 10 ≤ a.tmps.size ∧ a.defers = [] ∧ Below w.heap.size w W ∧ r1 = (0, 90)) (fun _ _ => 0) rfl ?first ?pass
 case pass =>
  rintro ⟨tmps, ds⟩ W ⟨hsz, hds, hB, hr⟩
  subst hr
  go_wp2_with fail
  rw [jump_ret_]
  refine bodyPost_ret (v := .tuple #[.int .i64 0, .int .i64 90]) (res_down ?_ ?_) rfl ⟨rfl, hB⟩
  · simp [Array.getD_eq_getD_getElem?, Array.getElem?_setIfInBounds, show 8 < tmps.size from Nat.lt_of_lt_of_le (by decide) hsz, show 9 < tmps.size from Nat.lt_of_lt_of_le (by decide) hsz]
  simp [Array.getD_eq_getD_getElem?, Array.getElem?_setIfInBounds, show 8 < tmps.size from Nat.lt_of_lt_of_le (by decide) hsz, show 9 < tmps.size from Nat.lt_of_lt_of_le (by decide) hsz]
 go_wp2_with fail
 refine (HN.out _ HC.out).mono ?_
 rintro e w1 ⟨v, rfl, hR, hB1⟩
 obtain ⟨A1, c1, rfl⟩ := Kd.R_slice hR
 obtain ⟨_, hc1, hC1⟩ := Kd.R_reads' hR
 have HC1 := Lib.hid (Kd.C_alloc hC1 (.cells #[.int .i64 nl, .int .i64 tu, .int .i64 ne, .int .i64 lo, .slice A1 sl.length c1] 24))
 have HB := Lib.hid (hBl (.cells #[.int .i64 nl, .int .i64 tu, .int .i64 ne, .int .i64 lo, .slice A1 sl.length c1] 24) hB1)
 have HROW := Lib.hid (heap_alloc_new w1 (.cells #[.int .i64 nl, .int .i64 tu, .int .i64 ne, .int .i64 lo, .slice A1 sl.length c1] 24))
 clear hR hB1 hC1
 by_cases he : er = 0
 rotate_left
 · have e1 := bne_t he
   have e2 := beq_f he
   rw [if_pos he] at hr1
   subst hr1
   clear he hlv
   go_wp2_with fail
   (go_step3; exact ⟨rfl, by simp, rfl, HB.out, rfl⟩)
 subst he
 rw [if_neg (by simp)] at hr1
 have hlv2 := hlv rfl
 clear hlv
 by_cases hl : nl < lv
 · rw [if_pos hl] at hr1
   subst hr1
   go_wp2_with fail
   (go_step3; exact ⟨rfl, by simp, rfl, HB.out, rfl⟩)
 rw [if_neg hl] at hr1
 by_cases hne : ne = 0
 · subst hne
   rw [if_pos rfl] at hr1
   simp only at hr1
   by_cases hl2 : lv < nl
   rotate_left
   · rw [if_neg hl2] at hr1
     subst hr1
     go_wp2_with fail
     first | go_ret2 | (rw [jump_ret_]; go_ret2)
     exact ⟨rfl, HB.out⟩
   rw [if_pos hl2] at hr1
   go_wp2_with (first
     | (refine wpList_load_row rfl 24 _ rfl w1.heap.size rfl 24 #[Value.int .i64 nl, Value.int .i64 tu, Value.int .i64 ne, Value.int .i64 lo, Value.slice A1 sl.length c1] (0, 0) _ HROW.out Try.underlying24 rfl (by kernel_rfl) ?_))
   refine (HCH.out _ _ _ _ _ _ _ (Kd.C_below HC.out HB.out) HC1.out hc1).mono ?_
   rintro e w3 ⟨rfl, hB3⟩
   have HBa := Lib.hid (HB.out.next hB3)
   have HROWa := Lib.hid ((hB3.block w1.heap.size (Nat.lt_of_lt_of_le (by simp) (Array.getElem?_eq_some_iff.1 HROW.out).1)).trans HROW.out)
   clear hB3 HB HROW
   go_wp2_with fail
   refine (HF2.out _ (Kd.C_below HC.out HBa.out)).mono ?_
   rintro e w4 ⟨rfl, hB4⟩
   have HB := Lib.hid (HBa.out.next hB4)
   have HROW := Lib.hid ((hB4.block w1.heap.size (Array.getElem?_eq_some_iff.1 HROWa.out).1).trans HROWa.out)
   clear hB4 HBa HROWa
   have hd0 : w4.cell? ⟨w1.heap.size, 0, none⟩ = some (.int .i64 nl) := (cell_of_row _ _ _ _ _ _ HROW.out).trans rfl
   by_cases hc0 : ch = 0
   · rw [if_pos hc0] at hr1
     subst hr1
     have hb0 := bne_f hc0
     have hb1 := beq_t hc0
     clear hc0
     go_wp2_with fail
     (go_step3; exact ⟨rfl, by simp, rfl, HB.out, rfl⟩)
   have hx0 := bne_t hc0
   have hx1 := beq_f hc0
   rw [if_neg hc0] at hr1
   clear hc0
   cases o2 with
   | false =>
    rw [if_pos rfl] at hr1
    subst hr1
    go_wp2_with fail
    (go_step3; exact ⟨rfl, by simp, rfl, HB.out, rfl⟩)
   | true =>
   rw [if_neg (by simp)] at hr1
   by_cases hl3 : l2 = nl - 1
   rotate_left
   · have e1 := bne_t hl3
     have e2 := beq_f hl3
     rw [if_pos hl3] at hr1
     subst hr1
     clear hl3
     go_wp2_with fail
     (go_step3; exact ⟨rfl, by simp, rfl, HB.out, rfl⟩)
   have e1 := bne_f hl3
   have e2 := beq_t hl3
   rw [if_neg (by simpa using hl3)] at hr1
   clear hl3
   by_cases hs : ltS key s2 = true
   · have hs2 : Op.bytesLess key.toList s2.toList = true := hs
     rw [if_pos hs] at hr1
     subst hr1
     clear hs
     go_wp2_with fail
     (go_step3; exact ⟨rfl, by simp, rfl, HB.out, rfl⟩)
   have hs3 : Op.bytesLess key.toList s2.toList = false := by simpa [ltS] using hs
   rw [if_neg hs] at hr1
   subst hr1
   clear hs
   go_wp2_with fail
   first | go_ret2 | (rw [jump_ret_]; go_ret2)
   exact ⟨rfl, HB.out⟩
 have hn0 := bne_t hne
 have hn1 := beq_f hne
 rw [if_neg hne] at hr1
 clear hne
 go_wp2_with fail
 refine (HF1.out _ (Kd.C_below HC.out HB.out)).mono ?_
 rintro e w2 ⟨rfl, hB2⟩
 have HB' := Lib.hid (HB.out.next hB2)
 have HROW' := Lib.hid ((hB2.block w1.heap.size (by simp)).trans HROW.out)
 have HC1' := Lib.hid (Kd.C_below HC1.out hB2)
 clear hB2 HB HROW HC1
 have HB := HB'
 have HROW := HROW'
 have HC1 := HC1'
 clear HB' HROW' HC1'
 have hc0 : w2.cell? ⟨w1.heap.size, 0, none⟩ = some (.int .i64 nl) := (cell_of_row _ _ _ _ _ _ HROW.out).trans rfl
 have hc2 : w2.cell? ⟨w1.heap.size, 2, none⟩ = some (.int .i64 ne) := (cell_of_row _ _ _ _ _ _ HROW.out).trans rfl
 by_cases hb : ne = b
 · rw [if_pos hb] at hr1
   simp only at hr1
   subst hr1
   have hb0 := bne_f hb
   have hb1 := beq_t hb
   clear hb
   go_wp2_with fail
   (go_step3; exact ⟨rfl, by simp, rfl, HB.out, rfl⟩)
 have hb0 := bne_t hb
 have hb1 := beq_f hb
 rw [if_neg hb] at hr1
 clear hb
 cases o1 with
 | false =>
  rw [if_pos rfl] at hr1
  simp only at hr1
  subst hr1
  go_wp2_with fail
  (go_step3; exact ⟨rfl, by simp, rfl, HB.out, rfl⟩)
 | true =>
 rw [if_neg (by simp)] at hr1
 by_cases hl1 : l1 = nl
 rotate_left
 · have e1 := bne_t hl1
   have e2 := beq_f hl1
   rw [if_pos hl1] at hr1
   simp only at hr1
   subst hr1
   clear hl1
   go_wp2_with fail
   (go_step3; exact ⟨rfl, by simp, rfl, HB.out, rfl⟩)
 subst hl1
 rw [if_neg (by simp)] at hr1
 by_cases hs : ltS key s1 = true
 rotate_left
 · have hs2 : Op.bytesLess key.toList s1.toList = false := by simpa [ltS] using hs
   rw [if_neg hs] at hr1
   simp only at hr1
   subst hr1
   clear hs
   go_wp2_with fail
   first | go_ret2 | (rw [jump_ret_]; go_ret2)
   exact ⟨rfl, HB.out⟩
 have hs2 : Op.bytesLess key.toList s1.toList = true := hs
 rw [if_pos hs] at hr1
 simp only at hr1
 clear hs
 by_cases hl2 : lv < l1
 rotate_left
 · rw [if_neg hl2] at hr1
   subst hr1
   go_wp2_with fail
   first | go_ret2 | (rw [jump_ret_]; go_ret2)
   exact ⟨rfl, HB.out⟩
 rw [if_pos hl2] at hr1
 go_wp2_with (first
   | (refine wpList_load_row rfl 24 _ rfl w1.heap.size rfl 24 #[Value.int .i64 l1, Value.int .i64 tu, Value.int .i64 ne, Value.int .i64 lo, Value.slice A1 sl.length c1] (0, 0) _ HROW.out Try.underlying24 rfl (by kernel_rfl) ?_))
 refine (HCH.out _ _ _ _ _ _ _ (Kd.C_below HC.out HB.out) HC1.out hc1).mono ?_
 rintro e w3 ⟨rfl, hB3⟩
 have HBa := Lib.hid (HB.out.next hB3)
 have HROWa := Lib.hid ((hB3.block w1.heap.size (Nat.lt_of_lt_of_le (by simp) (Array.getElem?_eq_some_iff.1 HROW.out).1)).trans HROW.out)
 clear hB3 HB HROW
 go_wp2_with fail
 refine (HF2.out _ (Kd.C_below HC.out HBa.out)).mono ?_
 rintro e w4 ⟨rfl, hB4⟩
 have HB := Lib.hid (HBa.out.next hB4)
 have HROW := Lib.hid ((hB4.block w1.heap.size (Array.getElem?_eq_some_iff.1 HROWa.out).1).trans HROWa.out)
 clear hB4 HBa HROWa
 have hd0 : w4.cell? ⟨w1.heap.size, 0, none⟩ = some (.int .i64 l1) := (cell_of_row _ _ _ _ _ _ HROW.out).trans rfl
 by_cases hc0 : ch = 0
 · rw [if_pos hc0] at hr1
   subst hr1
   have hb0 := bne_f hc0
   have hb1 := beq_t hc0
   clear hc0
   go_wp2_with fail
   (go_step3; exact ⟨rfl, by simp, rfl, HB.out, rfl⟩)
 have hx0 := bne_t hc0
 have hx1 := beq_f hc0
 rw [if_neg hc0] at hr1
 clear hc0
 cases o2 with
 | false =>
  rw [if_pos rfl] at hr1
  subst hr1
  go_wp2_with fail
  (go_step3; exact ⟨rfl, by simp, rfl, HB.out, rfl⟩)
 | true =>
 rw [if_neg (by simp)] at hr1
 by_cases hl3 : l2 = l1 - 1
 rotate_left
 · have e1 := bne_t hl3
   have e2 := beq_f hl3
   rw [if_pos hl3] at hr1
   subst hr1
   clear hl3
   go_wp2_with fail
   (go_step3; exact ⟨rfl, by simp, rfl, HB.out, rfl⟩)
 have e1 := bne_f hl3
 have e2 := beq_t hl3
 rw [if_neg (by simpa using hl3)] at hr1
 clear hl3
 by_cases hs : ltS key s2 = true
 · have hs2 : Op.bytesLess key.toList s2.toList = true := hs
   rw [if_pos hs] at hr1
   subst hr1
   clear hs
   go_wp2_with fail
   (go_step3; exact ⟨rfl, by simp, rfl, HB.out, rfl⟩)
 have hs3 : Op.bytesLess key.toList s2.toList = false := by simpa [ltS] using hs
 rw [if_neg hs] at hr1
 subst hr1
 clear hs
 go_wp2_with fail
 first | go_ret2 | (rw [jump_ret_]; go_ret2)
 exact ⟨rfl, HB.out⟩
end Go.Proofs.Ytliaemoomhfcdaa
namespace Go.Proofs.Ytliaemoomhfcdaa
open Go.RowKit Go.Proofs.YtliaemoomhfcdaaW.PrintWords
set_option maxHeartbeats 4000000
set_option maxRecDepth 100000
set_option linter.unusedVariables false
set_option linter.unusedSimpArgs false

/-- Where a look ends, that is asked so many times. -/
def findGo (ws : List Int) (key : ByteArray) (lv : Int) : Nat → Int → Int × Int
  | 0, _ => (0, 90)
  | n + 1, b => if (downRead ws b key lv).2 ≠ 0 then downRead ws b key lv else if (downRead ws b key lv).1 = b then downRead ws b key lv else findGo ws key lv n (downRead ws b key lv).1
def findRead (ws : List Int) (b : Int) (key : ByteArray) (lv : Int) : Int × Int := findGo ws key lv 600 b
theorem findGo_succ (ws : List Int) (key : ByteArray) (lv : Int) (n : Nat) (b : Int) : findGo ws key lv (n + 1) b = (if (downRead ws b key lv).2 ≠ 0 then downRead ws b key lv else if (downRead ws b key lv).1 = b then downRead ws b key lv else findGo ws key lv n (downRead ws b key lv).1) := rfl
theorem findGo_zero (ws : List Int) (key : ByteArray) (lv : Int) (b : Int) : findGo ws key lv 0 b = (0, 90) := rfl
theorem find_any (A : Option Addr) (c : Nat) (ws : List Int) (b : Int) (key : ByteArray) (lv : Int) (w : World) (h : Kd.C (Kd.int .i64) w A ws.length ws) (hc : ws.length ≤ c) (hn : ws.length ≤ 1000000000) :
    Calls Try.prog 17 #[.slice A ws.length c, .int .i64 b, .string key, .int .i64 lv] w fun e w' => e = .returned (.tuple #[.int .i64 (findRead ws b key lv).1, .int .i64 (findRead ws b key lv).2]) ∧ Below w.heap.size w w' := by
 have HD := Lib.hid (fun x W hW => down_any A c ws x key lv W hW hc hn)
 have HC := Lib.hid h
 clear h
 obtain ⟨r1, hr1⟩ : ∃ r, r = findRead ws b key lv := ⟨_, rfl⟩
 rw [← hr1]
 have hr : r1 = findGo ws key lv (599 + 1) b := hr1
 clear hr1
 go_enter Try.func17, Try.ntmps17
 go_wp2
 refine wp_scope_jumps (l := 0) (fun a W => ∃ (n : Nat) (b1 : Int) (u11 u12 u13 u14 u15 u16 u17 u18 u19 u20 u21 u22 u23 u24 u25 u26 u27 u28 u29 u30 u31 u32 u33 u34 : Value), n < 600 ∧ a = { tmps := #[.slice A ws.length c, .int .i64 b1, .string key, .int .i64 lv, undef, undef, undef, undef, .int .i64 0, .int .i64 0, .int .i64 ((n + 1 : Nat) : Int), u11, u12, u13, u14, u15, u16, u17, u18, u19, u20, u21, u22, u23, u24, u25, u26, u27, u28, u29, u30, u31, u32, u33, u34], defers := [] } ∧ Below w.heap.size w W ∧ r1 = findGo ws key lv (n + 1) b1) (fun a _ => (intOf (a.tmps.getD 10 undef)).toNat) rfl ?first ?pass
 case pass =>
  rintro a W ⟨n, b1, u11, u12, u13, u14, u15, u16, u17, u18, u19, u20, u21, u22, u23, u24, u25, u26, u27, u28, u29, u30, u31, u32, u33, u34, hn6, rfl, hB, hr2⟩
  clear hr
  have HB := Lib.hid hB
  clear hB
  have hd := HD.out b1
  rw [findGo_succ] at hr2
  generalize downRead ws b1 key lv = d at hd hr2
  obtain ⟨tt, er⟩ := d
  simp only at hd hr2
  have HD1 := Lib.hid hd
  clear hd
  go_wp2_with fail
  refine (HD1.out _ (Kd.C_below HC.out HB.out)).mono ?_
  rintro e w2 ⟨rfl, hB2⟩
  have HB2 := Lib.hid (HB.out.next hB2)
  clear hB2 HB HD1
  by_cases he : er = 0
  rotate_left
  · have e1 := bne_t he
    have e2 := beq_f he
    rw [if_pos he] at hr2
    subst hr2
    clear he
    go_wp2_with fail
    first | go_ret2 | (rw [jump_ret_]; go_ret2)
    exact ⟨rfl, HB2.out⟩
  subst he
  rw [if_neg (by simp)] at hr2
  by_cases hb : tt = b1
  · have e1 := bne_f hb
    have e2 := beq_t hb
    rw [if_pos hb] at hr2
    subst hr2
    clear hb
    go_wp2_with fail
    first | go_ret2 | (rw [jump_ret_]; go_ret2)
    exact ⟨rfl, HB2.out⟩
  have e1 := bne_t hb
  have e2 := beq_f hb
  rw [if_neg hb] at hr2
  clear hb
  by_cases hn0 : n = 0
  · subst hn0
    rw [findGo_zero] at hr2
    subst hr2
    go_wp2_with fail
    first | go_ret2 | (rw [jump_ret_]; go_ret2)
    exact ⟨rfl, HB2.out⟩
  obtain ⟨m, rfl⟩ : ∃ m, n = m + 1 := ⟨n - 1, by omega⟩
  clear hn0
  go_wp2_with fail
  go_step3
  exact ⟨rfl, ⟨m, tt, _, _, _, _, _, _, _, _, _, _, _, _, _, _, _, _, _, _, _, _, _, _, _, _, by omega, by first | rfl | (congr 1), HB2.out, hr2⟩, by show (((m + 1 : Nat) : Int)).toNat < (((m + 1 + 1 : Nat) : Int)).toNat; omega⟩
 have HB := Lib.hid (Below.refl w.heap.size w)
 have hr2 := hr
 clear hr
 obtain ⟨b1, rfl⟩ : ∃ b1, b1 = b := ⟨_, rfl⟩
 have hd := HD.out b1
 rw [findGo_succ] at hr2
 generalize downRead ws b1 key lv = d at hd hr2
 obtain ⟨tt, er⟩ := d
 simp only at hd hr2
 have HD1 := Lib.hid hd
 clear hd
 go_wp2_with fail
 go_step3
 go_wp2_with fail
 refine (HD1.out _ (Kd.C_below HC.out HB.out)).mono ?_
 rintro e w2 ⟨rfl, hB2⟩
 have HB2 := Lib.hid (HB.out.next hB2)
 clear hB2 HB HD1
 by_cases he : er = 0
 rotate_left
 · have e1 := bne_t he
   have e2 := beq_f he
   rw [if_pos he] at hr2
   subst hr2
   clear he
   go_wp2_with fail
   first | go_ret2 | (rw [jump_ret_]; go_ret2)
   exact ⟨rfl, HB2.out⟩
 subst he
 rw [if_neg (by simp)] at hr2
 by_cases hb : tt = b1
 · have e1 := bne_f hb
   have e2 := beq_t hb
   rw [if_pos hb] at hr2
   subst hr2
   clear hb
   go_wp2_with fail
   first | go_ret2 | (rw [jump_ret_]; go_ret2)
   exact ⟨rfl, HB2.out⟩
 have e1 := bne_t hb
 have e2 := beq_f hb
 rw [if_neg hb] at hr2
 clear hb
 go_wp2_with fail
 go_step3
 exact ⟨rfl, 598, tt, _, _, _, _, _, _, _, _, _, _, _, _, _, _, _, _, _, _, _, _, _, _, _, _, by omega, by first | rfl | (congr 1), HB2.out, hr2⟩
end Go.Proofs.Ytliaemoomhfcdaa
namespace Go.Proofs.Ytliaemoomhfcdaa
open Go.RowKit Go.Proofs.YtliaemoomhfcdaaW.PrintWords
set_option linter.unusedVariables false
set_option linter.unusedSimpArgs false

/-- One step down fails, or goes to the next node, or to a child, or stays. -/
inductive Down (ws : List Int) (b : Int) (key : ByteArray) (lv : Int) : Int × Int → Prop
  | bad : Down ws b key lv (0, 90)
  | next (h1 : (nodeRead ws b).2 = 0) (h2 : lv ≤ (nodeRead ws b).1.level) (h3 : (nodeRead ws b).1.next ≠ 0) (h4 : (nodeRead ws b).1.next ≠ b) (h5 : (nodeRead ws (nodeRead ws b).1.next).2 = 0)
      (h6 : (lowRead ws (nodeRead ws b).1.next).2 = 0) (h7 : (nodeRead ws (nodeRead ws b).1.next).1.level = (nodeRead ws b).1.level) (h8 : ltS key (lowRead ws (nodeRead ws b).1.next).1 = false) : Down ws b key lv ((nodeRead ws b).1.next, 0)
  | child (h1 : (nodeRead ws b).2 = 0) (h2 : lv < (nodeRead ws b).1.level) (hs : (nodeRead ws b).1.next = 0 ∨ ((nodeRead ws b).1.next ≠ b ∧ (nodeRead ws (nodeRead ws b).1.next).2 = 0 ∧ (lowRead ws (nodeRead ws b).1.next).2 = 0 ∧ (nodeRead ws (nodeRead ws b).1.next).1.level = (nodeRead ws b).1.level ∧ ltS key (lowRead ws (nodeRead ws b).1.next).1 = true))
      (h3 : childOf ws (nodeRead ws b).1.slots key ≠ 0) (h5 : (nodeRead ws (childOf ws (nodeRead ws b).1.slots key)).2 = 0) (h6 : (lowRead ws (childOf ws (nodeRead ws b).1.slots key)).2 = 0)
      (h7 : (nodeRead ws (childOf ws (nodeRead ws b).1.slots key)).1.level = (nodeRead ws b).1.level - 1) (h8 : ltS key (lowRead ws (childOf ws (nodeRead ws b).1.slots key)).1 = false) : Down ws b key lv (childOf ws (nodeRead ws b).1.slots key, 0)
  | stay (h1 : (nodeRead ws b).2 = 0) (h2 : (nodeRead ws b).1.level = lv) (hs : (nodeRead ws b).1.next = 0 ∨ ((nodeRead ws b).1.next ≠ b ∧ (nodeRead ws (nodeRead ws b).1.next).2 = 0 ∧ (lowRead ws (nodeRead ws b).1.next).2 = 0 ∧ (nodeRead ws (nodeRead ws b).1.next).1.level = (nodeRead ws b).1.level ∧ ltS key (lowRead ws (nodeRead ws b).1.next).1 = true)) : Down ws b key lv (b, 0)
theorem fromRead_ok {ws : List Int} {b : Int} (h : (fromRead ws b).2.2 = true) : (nodeRead ws b).2 = 0 ∧ (lowRead ws b).2 = 0 ∧ (fromRead ws b).1 = (nodeRead ws b).1.level ∧ (fromRead ws b).2.1 = (lowRead ws b).1 := by
 unfold fromRead at h ⊢
 by_cases hn : (nodeRead ws b).2 = 0
 · rw [if_pos hn] at h ⊢
   exact ⟨hn, by simpa using h, rfl, rfl⟩
 rw [if_neg hn] at h; cases h
theorem down_cases (ws : List Int) (b : Int) (key : ByteArray) (lv : Int) : Down ws b key lv (downRead ws b key lv) := by
 unfold downRead
 by_cases hn : (nodeRead ws b).2 = 0
 rotate_left
 · rw [if_pos hn]; exact .bad
 rw [if_neg (by simpa using hn)]
 by_cases hl : (nodeRead ws b).1.level < lv
 · rw [if_pos hl]; exact .bad
 rw [if_neg hl]
 have hchild : ∀ (hs : (nodeRead ws b).1.next = 0 ∨ ((nodeRead ws b).1.next ≠ b ∧ (nodeRead ws (nodeRead ws b).1.next).2 = 0 ∧ (lowRead ws (nodeRead ws b).1.next).2 = 0 ∧ (nodeRead ws (nodeRead ws b).1.next).1.level = (nodeRead ws b).1.level ∧ ltS key (lowRead ws (nodeRead ws b).1.next).1 = true)),
     Down ws b key lv (downChild ws b key lv (nodeRead ws b).1) := by
   intro hs
   unfold downChild
   by_cases h2 : lv < (nodeRead ws b).1.level
   rotate_left
   · rw [if_neg h2]; exact .stay hn (by omega) hs
   rw [if_pos h2]
   by_cases h3 : childOf ws (nodeRead ws b).1.slots key = 0
   · rw [if_pos h3]; exact .bad
   rw [if_neg h3]
   cases h4 : (fromRead ws (childOf ws (nodeRead ws b).1.slots key)).2.2 with
   | false => rw [if_pos rfl]; exact .bad
   | true =>
   rw [if_neg (by simp)]
   obtain ⟨a1, a2, a3, a4⟩ := fromRead_ok h4
   rw [a3, a4]
   by_cases h5 : (nodeRead ws (childOf ws (nodeRead ws b).1.slots key)).1.level = (nodeRead ws b).1.level - 1
   rotate_left
   · rw [if_pos h5]; exact .bad
   rw [if_neg (by simpa using h5)]
   cases h6 : ltS key (lowRead ws (childOf ws (nodeRead ws b).1.slots key)).1 with
   | true => rw [if_pos rfl]; exact .bad
   | false => rw [if_neg (by simp)]; exact .child hn h2 hs h3 a1 a2 h5 h6
 unfold downSide
 by_cases h0 : (nodeRead ws b).1.next = 0
 · rw [if_pos h0]; exact hchild (.inl h0)
 rw [if_neg h0]
 by_cases h1 : (nodeRead ws b).1.next = b
 · rw [if_pos h1]; exact .bad
 rw [if_neg h1]
 cases h4 : (fromRead ws (nodeRead ws b).1.next).2.2 with
 | false => rw [if_pos rfl]; exact .bad
 | true =>
 rw [if_neg (by simp)]
 obtain ⟨a1, a2, a3, a4⟩ := fromRead_ok h4
 rw [a3, a4]
 by_cases h5 : (nodeRead ws (nodeRead ws b).1.next).1.level = (nodeRead ws b).1.level
 rotate_left
 · rw [if_pos h5]; exact .bad
 rw [if_neg (by simpa using h5)]
 cases h6 : ltS key (lowRead ws (nodeRead ws b).1.next).1 with
 | true => rw [if_pos rfl]; exact hchild (.inr ⟨h1, a1, a2, h5, h6⟩)
 | false => rw [if_neg (by simp)]; exact .next hn (by omega) h0 h1 a1 a2 h5 h6
theorem down_bad {ws : List Int} {b : Int} {key : ByteArray} {lv : Int} (h : (downRead ws b key lv).2 ≠ 0) : downRead ws b key lv = (0, 90) := by
 have := down_cases ws b key lv
 generalize downRead ws b key lv = r at this h ⊢
 cases this <;> first | rfl | exact absurd rfl h
/-- A step that stays says where it is. -/
theorem down_stay {ws : List Int} {b : Int} {key : ByteArray} {lv : Int} (h : downRead ws b key lv = (b, 0)) :
    (nodeRead ws b).2 = 0 ∧ (nodeRead ws b).1.level = lv ∧ ((nodeRead ws b).1.next = 0 ∨ ((nodeRead ws b).1.next ≠ b ∧ (nodeRead ws (nodeRead ws b).1.next).2 = 0 ∧ (lowRead ws (nodeRead ws b).1.next).2 = 0 ∧ (nodeRead ws (nodeRead ws b).1.next).1.level = (nodeRead ws b).1.level ∧ ltS key (lowRead ws (nodeRead ws b).1.next).1 = true)) := by
 have := down_cases ws b key lv
 rw [h] at this
 generalize hr : ((b, 0) : Int × Int) = r at this
 cases this with
 | bad => simp at hr
 | next h1 h2 h3 h4 => injection hr with hr; exact absurd hr.symm h4
 | child h1 h2 hs h3 h5 h6 h7 h8 => injection hr with hr; rw [← hr] at h7; omega
 | stay h1 h2 hs => exact ⟨h1, h2, hs⟩
theorem findGo_cases (ws : List Int) (key : ByteArray) (lv : Int) : ∀ (n : Nat) (b : Int), findGo ws key lv n b = (0, 90) ∨ ((findGo ws key lv n b).2 = 0 ∧ downRead ws (findGo ws key lv n b).1 key lv = ((findGo ws key lv n b).1, 0))
  | 0, _ => .inl rfl
  | n + 1, b => by
    rw [findGo_succ]
    by_cases h1 : (downRead ws b key lv).2 = 0
    rotate_left
    · rw [if_pos h1]; exact .inl (down_bad h1)
    rw [if_neg (by simpa using h1)]
    by_cases h2 : (downRead ws b key lv).1 = b
    · rw [if_pos h2]
      right
      refine ⟨h1, ?_⟩
      rw [h2]
      exact Prod.ext h2 h1
    · rw [if_neg h2]; exact findGo_cases ws key lv n _
theorem find_cases (ws : List Int) (b : Int) (key : ByteArray) (lv : Int) : findRead ws b key lv = (0, 90) ∨ ((findRead ws b key lv).2 = 0 ∧ downRead ws (findRead ws b key lv).1 key lv = ((findRead ws b key lv).1, 0)) := findGo_cases ws key lv 600 b
end Go.Proofs.Ytliaemoomhfcdaa
namespace Go.Proofs.Ytliaemoomhfcdaa.AW
open Go.RowKit Go.Proofs.YtliaemoomhfcdaaW.PrintWords Go.Proofs.YtliaemoomhfcdaaW.PrintLast Go.Proofs.YtliaemoomhfcdaaW.PrintMore
attribute [local go_sem] max2_int min2_int max_two min_two max_three min_three max_four min_four   -- for this text's walks alone
set_option linter.unusedVariables false
set_option linter.unusedSimpArgs false
noncomputable section



def errW : Option Int → Value
  | none => .nilIface
  | some c => .iface 0 (.int .i64 c)
theorem errW_none : errW none = .nilIface := rfl
theorem errW_some (c : Int) : errW (some c) = .iface 0 (.int .i64 c) := rfl

theorem info3 : (Try.prog.info? 3).map (fun i => (i.zero, i.size, i.bytes)) = some (some (.int .i64 0), 1, 8) := by kernel_rfl
-- the values' own types
def rd_L1 (xs : List (List Int)) (i : Int) : (List Int) := xs.getD i.toNat ([] : List Int)
theorem at_L1 {w : World} {A : Option Addr} {n : Nat} {xs : List (List Int)} (h : Kd.C (Kd.slice 3 (Kd.int .i64)) w A n xs) (i : Int) (h0 : 0 ≤ i) (h1 : i < n) : ∃ ad A0 c0, A = some ad ∧ w.cell? (ad.add i.toNat) = some (.slice A0 (rd_L1 xs i).length c0) ∧ (rd_L1 xs i).length ≤ c0 ∧ (Kd.int .i64).C w A0 (rd_L1 xs i).length (rd_L1 xs i) := by
 obtain ⟨ad, c, e, _, hK, hc0⟩ := Kd.C_get h ([] : List Int) i h0 h1
 have hc : ∀ j u, c[j]? = some u → w.cell? (ad.add (i.toNat * 1 + j)) = some u := hc0
 obtain ⟨A0, c0, rfl, l0, g0⟩ := hK
 exact ⟨ad, A0, c0, e, by have hq := hc 0 _ rfl; rwa [Nat.mul_one, Nat.add_zero] at hq, l0, g0⟩

/-! #### struct type 24 -/
structure S24 where
  f0 : Int
  f1 : Int
  f2 : Int
  f3 : Int
  f4 : (List Int)
def z24 : S24 := ⟨(0 : Int), (0 : Int), (0 : Int), (0 : Int), ([] : List Int)⟩
def k24 : Kd S24 := Kd.iso (Kd.pair (Kd.int .i64) (Kd.pair (Kd.int .i64) (Kd.pair (Kd.int .i64) (Kd.pair (Kd.int .i64) (Kd.slice 3 (Kd.int .i64)))))) (fun x : S24 => (x.f0, x.f1, x.f2, x.f3, x.f4))
theorem k24_open {w : World} {x : S24} {cs : List Value} (h : k24.K w x cs) : ∃ A4 c4, cs = [.int .i64 x.f0, .int .i64 x.f1, .int .i64 x.f2, .int .i64 x.f3, .slice A4 x.f4.length c4] ∧ x.f4.length ≤ c4 ∧ (Kd.int .i64).C w A4 x.f4.length x.f4 := by
 obtain ⟨_, _, rfl, rfl, ⟨_, _, rfl, rfl, ⟨_, _, rfl, rfl, ⟨_, _, rfl, rfl, ⟨A4, c4, rfl, l4, g4⟩⟩⟩⟩⟩ := h
 exact ⟨A4, c4, rfl, l4, g4⟩
theorem k24_openM {w : World} {base : Nat} {ok : Nat → Prop} {x : S24} {cs : List Value} (h : k24.M w base ok x cs) : ∃ v4, cs = [.int .i64 x.f0, .int .i64 x.f1, .int .i64 x.f2, .int .i64 x.f3, v4] ∧ (Kd.int .i64).R 3 w base ok v4 x.f4 := by
 obtain ⟨_, _, rfl, rfl, ⟨_, _, rfl, rfl, ⟨_, _, rfl, rfl, ⟨_, _, rfl, rfl, ⟨v4, rfl, g4⟩⟩⟩⟩⟩ := h
 exact ⟨v4, rfl, g4⟩
theorem k24_mk (w : World) (x : S24) {A4 : Option Addr} {c4 : Nat} (l4 : x.f4.length ≤ c4) (g4 : (Kd.int .i64).C w A4 x.f4.length x.f4) : k24.K w x [.int .i64 x.f0, .int .i64 x.f1, .int .i64 x.f2, .int .i64 x.f3, .slice A4 x.f4.length c4] := ⟨[.int .i64 x.f0], [.int .i64 x.f1, .int .i64 x.f2, .int .i64 x.f3, .slice A4 x.f4.length c4], rfl, rfl, ⟨[.int .i64 x.f1], [.int .i64 x.f2, .int .i64 x.f3, .slice A4 x.f4.length c4], rfl, rfl, ⟨[.int .i64 x.f2], [.int .i64 x.f3, .slice A4 x.f4.length c4], rfl, rfl, ⟨[.int .i64 x.f3], [.slice A4 x.f4.length c4], rfl, rfl, ⟨A4, c4, rfl, l4, g4⟩⟩⟩⟩⟩
theorem k24_mkM (w : World) (base : Nat) (ok : Nat → Prop) (x : S24) {v4 : Value} (g4 : (Kd.int .i64).R 3 w base ok v4 x.f4) : k24.M w base ok x [.int .i64 x.f0, .int .i64 x.f1, .int .i64 x.f2, .int .i64 x.f3, v4] := ⟨[.int .i64 x.f0], [.int .i64 x.f1, .int .i64 x.f2, .int .i64 x.f3, v4], rfl, rfl, ⟨[.int .i64 x.f1], [.int .i64 x.f2, .int .i64 x.f3, v4], rfl, rfl, ⟨[.int .i64 x.f2], [.int .i64 x.f3, v4], rfl, rfl, ⟨[.int .i64 x.f3], [v4], rfl, rfl, ⟨v4, rfl, g4⟩⟩⟩⟩⟩
theorem k24_openF {W : World} {ok : Nat → Prop} {x : S24} {cs : List Value} (h : Kd.FK k24 W ok x cs) : ∃ A4 c4, cs = [.int .i64 x.f0, .int .i64 x.f1, .int .i64 x.f2, .int .i64 x.f3, .slice A4 x.f4.length c4] ∧ x.f4.length ≤ c4 ∧ Kd.F (Kd.int .i64) W ok A4 x.f4.length x.f4 := by
 obtain ⟨A4, c4, rfl, l4, _⟩ := k24_open (Kd.FK_now h)
 exact ⟨A4, c4, rfl, l4, (fun W' hW => by obtain ⟨A4_, c4_, he, l4_, g4_⟩ := k24_open (h W' hW); injection (Option.some.inj (show some (Value.slice A4 x.f4.length c4) = some (Value.slice A4_ x.f4.length c4_) from congrArg (fun l => l[4]?) he)) with ha_ _ _; rw [ha_]; exact g4_)⟩
theorem k24_mkF (W : World) (ok : Nat → Prop) (x : S24) {A4 : Option Addr} {c4 : Nat} (l4 : x.f4.length ≤ c4) (g4 : Kd.F (Kd.int .i64) W ok A4 x.f4.length x.f4) : Kd.FK k24 W ok x [.int .i64 x.f0, .int .i64 x.f1, .int .i64 x.f2, .int .i64 x.f3, .slice A4 x.f4.length c4] := fun W2 hW => k24_mk W2 x l4 (g4 W2 hW)
def rd_T24 (xs : List S24) (i : Int) : S24 := xs.getD i.toNat z24
theorem at_T24 {w : World} {A : Option Addr} {n : Nat} {xs : List S24} (h : Kd.C k24 w A n xs) (i : Int) (h0 : 0 ≤ i) (h1 : i < n) : ∃ ad A4 c4, A = some ad ∧ w.cell? (ad.add (i.toNat * 5)) = some (.int .i64 (rd_T24 xs i).f0) ∧ w.cell? ⟨(ad.add (i.toNat * 5)).block, (ad.add (i.toNat * 5)).off + 1, none⟩ = some (.int .i64 (rd_T24 xs i).f1) ∧ w.cell? ⟨(ad.add (i.toNat * 5)).block, (ad.add (i.toNat * 5)).off + 2, none⟩ = some (.int .i64 (rd_T24 xs i).f2) ∧ w.cell? ⟨(ad.add (i.toNat * 5)).block, (ad.add (i.toNat * 5)).off + 3, none⟩ = some (.int .i64 (rd_T24 xs i).f3) ∧ w.cell? ⟨(ad.add (i.toNat * 5)).block, (ad.add (i.toNat * 5)).off + 4, none⟩ = some (.slice A4 (rd_T24 xs i).f4.length c4) ∧ (rd_T24 xs i).f4.length ≤ c4 ∧ (Kd.int .i64).C w A4 (rd_T24 xs i).f4.length (rd_T24 xs i).f4 := by
 obtain ⟨ad, c, e, _, hK, hc0⟩ := Kd.C_get h z24 i h0 h1
 have hc : ∀ j u, c[j]? = some u → w.cell? (ad.add (i.toNat * 5 + j)) = some u := hc0
 obtain ⟨A4, c4, rfl, l4, g4⟩ := k24_open hK
 exact ⟨ad, A4, c4, e, hc 0 _ rfl, by rw [← add_field _ _ 1 (by omega)]; exact hc 1 _ rfl, by rw [← add_field _ _ 2 (by omega)]; exact hc 2 _ rfl, by rw [← add_field _ _ 3 (by omega)]; exact hc 3 _ rfl, by rw [← add_field _ _ 4 (by omega)]; exact hc 4 _ rfl, l4, g4⟩

/-! #### struct type 62 -/
structure S62 where
  f0 : Int
  f1 : ByteArray
  f2 : ByteArray
  f3 : Int
def z62 : S62 := ⟨(0 : Int), (⟨#[]⟩ : ByteArray), (⟨#[]⟩ : ByteArray), (0 : Int)⟩
def k62 : Kd S62 := Kd.iso (Kd.pair (Kd.int .i64) (Kd.pair Kd.string (Kd.pair Kd.string (Kd.int .i64)))) (fun x : S62 => (x.f0, x.f1, x.f2, x.f3))
theorem k62_open {w : World} {x : S62} {cs : List Value} (h : k62.K w x cs) : cs = [.int .i64 x.f0, .string x.f1, .string x.f2, .int .i64 x.f3] := by
 obtain ⟨_, _, rfl, rfl, ⟨_, _, rfl, rfl, ⟨_, _, rfl, rfl, rfl⟩⟩⟩ := h
 exact rfl
theorem k62_openM {w : World} {base : Nat} {ok : Nat → Prop} {x : S62} {cs : List Value} (h : k62.M w base ok x cs) : cs = [.int .i64 x.f0, .string x.f1, .string x.f2, .int .i64 x.f3] := by
 obtain ⟨_, _, rfl, rfl, ⟨_, _, rfl, rfl, ⟨_, _, rfl, rfl, rfl⟩⟩⟩ := h
 exact rfl
theorem k62_mk (w : World) (x : S62)  : k62.K w x [.int .i64 x.f0, .string x.f1, .string x.f2, .int .i64 x.f3] := ⟨[.int .i64 x.f0], [.string x.f1, .string x.f2, .int .i64 x.f3], rfl, rfl, ⟨[.string x.f1], [.string x.f2, .int .i64 x.f3], rfl, rfl, ⟨[.string x.f2], [.int .i64 x.f3], rfl, rfl, rfl⟩⟩⟩
theorem k62_mkM (w : World) (base : Nat) (ok : Nat → Prop) (x : S62)  : k62.M w base ok x [.int .i64 x.f0, .string x.f1, .string x.f2, .int .i64 x.f3] := ⟨[.int .i64 x.f0], [.string x.f1, .string x.f2, .int .i64 x.f3], rfl, rfl, ⟨[.string x.f1], [.string x.f2, .int .i64 x.f3], rfl, rfl, ⟨[.string x.f2], [.int .i64 x.f3], rfl, rfl, rfl⟩⟩⟩
theorem k62_mkF (W : World) (ok : Nat → Prop) (x : S62) : Kd.FK k62 W ok x [.int .i64 x.f0, .string x.f1, .string x.f2, .int .i64 x.f3] := fun W2 _ => k62_mk W2 x
def rd_T62 (xs : List S62) (i : Int) : S62 := xs.getD i.toNat z62
theorem at_T62 {w : World} {A : Option Addr} {n : Nat} {xs : List S62} (h : Kd.C k62 w A n xs) (i : Int) (h0 : 0 ≤ i) (h1 : i < n) : ∃ ad , A = some ad ∧ w.cell? (ad.add (i.toNat * 4)) = some (.int .i64 (rd_T62 xs i).f0) ∧ w.cell? ⟨(ad.add (i.toNat * 4)).block, (ad.add (i.toNat * 4)).off + 1, none⟩ = some (.string (rd_T62 xs i).f1) ∧ w.cell? ⟨(ad.add (i.toNat * 4)).block, (ad.add (i.toNat * 4)).off + 2, none⟩ = some (.string (rd_T62 xs i).f2) ∧ w.cell? ⟨(ad.add (i.toNat * 4)).block, (ad.add (i.toNat * 4)).off + 3, none⟩ = some (.int .i64 (rd_T62 xs i).f3) := by
 obtain ⟨ad, c, e, _, hK, hc0⟩ := Kd.C_get h z62 i h0 h1
 have hc : ∀ j u, c[j]? = some u → w.cell? (ad.add (i.toNat * 4 + j)) = some u := hc0
 obtain rfl := k62_open hK
 exact ⟨ad, e, hc 0 _ rfl, by rw [← add_field _ _ 1 (by omega)]; exact hc 1 _ rfl, by rw [← add_field _ _ 2 (by omega)]; exact hc 2 _ rfl, by rw [← add_field _ _ 3 (by omega)]; exact hc 3 _ rfl⟩

end
end Go.Proofs.Ytliaemoomhfcdaa.AW
namespace Go.Proofs.Ytliaemoomhfcdaa.AW
open Go.RowKit Go.Proofs.YtliaemoomhfcdaaW.PrintWords Go.Proofs.YtliaemoomhfcdaaW.PrintLast Go.Proofs.YtliaemoomhfcdaaW.PrintMore
set_option linter.unusedVariables false
set_option linter.unusedSimpArgs false
section

def arena_New.f (a0 : Int) : Option (List Int × Int) := some (newAns a0)
theorem arena_New.calls (a0 : Int) (r1 : List Int) (r2 : Int) (w : World) (h : arena_New.f a0 = some (r1, r2)) :
    Calls Try.prog 37 #[.int .i64 a0] w fun e w' => ∃ v0_ : Value, e = .returned (.tuple #[v0_, .int .i64 r2]) ∧ Kd.R (Kd.int .i64) 3 w' w.heap.size (fun _ => True) v0_ r1 ∧ Below w.heap.size w w' := by
 unfold arena_New.f at h
 injection h with h
 have h1 : (newAns a0).1 = r1 := by rw [h]
 have h2 : (newAns a0).2 = r2 := by rw [h]
 subst h1 h2
 refine (new_any a0 w).mono ?_
 rintro e w' ⟨v, rfl, ho, hb⟩
 exact ⟨v, rfl, R_of_ints ho, hb⟩
def rec_Words.f (a0 : Int) (a1 a2 : ByteArray) (a3 : Int) : Option (List Int × Int) := some (recWordsAns ⟨a0, a1, a2, a3⟩)
theorem rec_Words.calls (a0 : Int) (a1 a2 : ByteArray) (a3 : Int) (r1 : List Int) (r2 : Int) (w : World) (h : rec_Words.f a0 a1 a2 a3 = some (r1, r2)) :
    Calls Try.prog 38 #[.agg #[.int .i64 a0, .string a1, .string a2, .int .i64 a3]] w fun e w' => ∃ v0_ : Value, e = .returned (.tuple #[v0_, .int .i64 r2]) ∧ Kd.V (Kd.int .i64) 3 w' w.heap.size (fun k_ => w.heap.size ≤ k_) v0_ r1 ∧ Below w.heap.size w w' := by
 unfold rec_Words.f at h
 injection h with h
 have h1 : (recWordsAns ⟨a0, a1, a2, a3⟩).1 = r1 := by rw [h]
 have h2 : (recWordsAns ⟨a0, a1, a2, a3⟩).2 = r2 := by rw [h]
 subst h1 h2
 exact recWords_any ⟨a0, a1, a2, a3⟩ w
def index_Find.f (l0 : List Int) (a1 : Int) (a2 : ByteArray) (a3 : Int) : Option (Int × Int) := if l0.length ≤ 1000000000 then some (findRead l0 a1 a2 a3) else none
theorem index_Find.calls (A0 : Option Addr) (c0 : Nat) (l0 : List Int) (a1 : Int) (a2 : ByteArray) (a3 : Int) (r1 r2 : Int) (w : World) (hr0 : Kd.C (Kd.int .i64) w A0 l0.length l0) (hc0 : l0.length ≤ c0) (h : index_Find.f l0 a1 a2 a3 = some (r1, r2)) :
    Calls Try.prog 17 #[.slice A0 l0.length c0, .int .i64 a1, .string a2, .int .i64 a3] w fun e w' => e = .returned (.tuple #[.int .i64 r1, .int .i64 r2]) ∧ Below w.heap.size w w' := by
 unfold index_Find.f at h
 split at h
 · rename_i hs
   injection h with h
   have h1 : (findRead l0 a1 a2 a3).1 = r1 := by rw [h]
   have h2 : (findRead l0 a1 a2 a3).2 = r2 := by rw [h]
   subst h1 h2
   exact find_any A0 c0 l0 a1 a2 a3 w hr0 hc0 hs
 cases h
def index_Down.f (l0 : List Int) (a1 : Int) (a2 : ByteArray) (a3 : Int) : Option (Int × Int) := if l0.length ≤ 1000000000 then some (downRead l0 a1 a2 a3) else none
theorem index_Down.calls (A0 : Option Addr) (c0 : Nat) (l0 : List Int) (a1 : Int) (a2 : ByteArray) (a3 : Int) (r1 r2 : Int) (w : World) (hr0 : Kd.C (Kd.int .i64) w A0 l0.length l0) (hc0 : l0.length ≤ c0) (h : index_Down.f l0 a1 a2 a3 = some (r1, r2)) :
    Calls Try.prog 15 #[.slice A0 l0.length c0, .int .i64 a1, .string a2, .int .i64 a3] w fun e w' => e = .returned (.tuple #[.int .i64 r1, .int .i64 r2]) ∧ Below w.heap.size w w' := by
 unfold index_Down.f at h
 split at h
 · rename_i hs
   injection h with h
   have h1 : (downRead l0 a1 a2 a3).1 = r1 := by rw [h]
   have h2 : (downRead l0 a1 a2 a3).2 = r2 := by rw [h]
   subst h1 h2
   exact down_any A0 c0 l0 a1 a2 a3 w hr0 hc0 hs
 cases h
def index_Place.f (l0 : List Int) (a1_0 a1_1 a1_2 a1_3 : Int) (l1_4 : List Int) (a2 : ByteArray) : Option (Int × Bool) := if l0.length ≤ 1000000000 ∧ l1_4.length ≤ 1000000000 then some (placeOf l0 l1_4 a2) else none
theorem index_Place.calls (A0 : Option Addr) (c0 : Nat) (l0 : List Int) (a1_0 a1_1 a1_2 a1_3 : Int) (A1_4 : Option Addr) (c1_4 : Nat) (l1_4 : List Int) (a2 : ByteArray) (r1 : Int) (r2 : Bool) (w : World) (hr0 : Kd.C (Kd.int .i64) w A0 l0.length l0) (hc0 : l0.length ≤ c0) (hr1_4 : Kd.C (Kd.int .i64) w A1_4 l1_4.length l1_4) (hc1_4 : l1_4.length ≤ c1_4) (h : index_Place.f l0 a1_0 a1_1 a1_2 a1_3 l1_4 a2 = some (r1, r2)) :
    Calls Try.prog 19 #[.slice A0 l0.length c0, .agg #[.int .i64 a1_0, .int .i64 a1_1, .int .i64 a1_2, .int .i64 a1_3, .slice A1_4 l1_4.length c1_4], .string a2] w fun e w' => e = .returned (.tuple #[.int .i64 r1, .bool r2]) ∧ Below w.heap.size w w' := by
 unfold index_Place.f at h
 split at h
 · rename_i hs
   injection h with h
   have h1 : (placeOf l0 l1_4 a2).1 = r1 := by rw [h]
   have h2 : (placeOf l0 l1_4 a2).2 = r2 := by rw [h]
   subst h1 h2
   exact place_any A0 c0 l0 a1_0 a1_1 a1_2 a1_3 A1_4 c1_4 l1_4 a2 w hr0 hc0 hs.1 hr1_4 hc1_4 hs.2
 cases h
end
end Go.Proofs.Ytliaemoomhfcdaa.AW
namespace Go.Proofs.Ytliaemoomhfcdaa.AW
open Go.RowKit Go.Proofs.YtliaemoomhfcdaaW.PrintWords Go.Proofs.YtliaemoomhfcdaaW.PrintLast Go.Proofs.YtliaemoomhfcdaaW.PrintMore
attribute [local go_sem] max2_int min2_int max_two min_two max_three min_three max_four min_four   -- for this text's walks alone
set_option linter.unusedVariables false
set_option linter.unusedSimpArgs false
noncomputable section

/-! ### lamplighterlaw15_awake: function 14 -/
def lamplighterlaw15_awake.f  : Option (Bool) := (arena_New.f 4).bind fun bt101 => (if (bt101.1.length : Int) = 64 then ((index_Find.f bt101.1 1 (⟨#[97]⟩ : ByteArray) 0).bind fun bt105 => ((index_Down.f bt101.1 1 (⟨#[97]⟩ : ByteArray) 1).bind fun bt107 => ((rec_Words.f 1 (⟨#[109]⟩ : ByteArray) (⟨#[]⟩ : ByteArray) 0).bind fun bt109 => ((some (([] : List Int) : List Int)).bind fun y113 => (if 32 ≤ (bt101.1.length : Int) then ((some (bt101.1.take 32 : List Int)).bind fun y116 => (if y113.length + y116.length < 17592186044416 then ((some (y113 ++ y116 : List Int)).bind fun y120 => (if y120.length + bt109.1.length < 17592186044416 then ((some (y120 ++ bt109.1 : List Int)).bind fun y123 => (if 48 ≤ (bt101.1.length : Int) then ((some (bt101.1.drop 48 : List Int)).bind fun y126 => (if y123.length + y126.length < 17592186044416 then ((some (y123 ++ y126 : List Int)).bind fun y130 => ((index_Place.f y130 0 0 0 0 (([2] : List Int)) (⟨#[109]⟩ : ByteArray)).bind fun bt136 => ((index_Place.f y130 0 0 0 0 (([2] : List Int)) (⟨#[120]⟩ : ByteArray)).bind fun bt141 => (if bt105.1 = 1 then (if bt105.2 = 0 then (if bt107.2 = 90 then (if bt136.1 = 0 then (if bt136.2 = true then (if bt141.1 = 1 then (some (!bt141.2)) else (none)) else (none)) else (none)) else (none)) else (none)) else (none))))) else (none))) else (none))) else (none))) else (none))) else (none)))))) else (none))
def lamplighterlaw15_awake.T7 : Bool × List (List Nat × List Nat) := (true, [([], []), ([], []), ([1], [1]), ([0, 2], [0, 2]), ([], []), ([3, 4, 3], [3, 4]), ([], []), ([6], [6]), ([5, 7, 5], [5, 7]), ([8, 8, 0, 1, 2, 3, 4, 5, 6, 7, 8], [1, 6, 8])])
def lamplighterlaw15_awake.B7 : List Nat := [0, 0, 2, 7, 0, 31, 0, 64, 255, 511]
theorem lamplighterlaw15_awake.tab7 : rtab .any (opsOf Try.f14 7) = lamplighterlaw15_awake.T7 := by kernel_rfl
theorem lamplighterlaw15_awake.bits7 : waitsOk lamplighterlaw15_awake.T7.2 lamplighterlaw15_awake.B7 = true := by kernel_rfl
set_option maxHeartbeats 8000000 in
set_option maxRecDepth 100000 in
theorem lamplighterlaw15_awake.calls  (r : Bool) (w : World) (h : lamplighterlaw15_awake.f  = some r) :
    Calls Try.prog 14 #[] w fun e w' => e = .returned (.bool r) ∧ Below w.heap.size w w' := by
 have hu62 := Try.underlying62
 have hu24 := Try.underlying24
 have HB := Aside0.mk (Below.refl w.heap.size w)
 have H : ((arena_New.f 4).bind fun bt101 => (if (bt101.1.length : Int) = 64 then ((index_Find.f bt101.1 1 (⟨#[97]⟩ : ByteArray) 0).bind fun bt105 => ((index_Down.f bt101.1 1 (⟨#[97]⟩ : ByteArray) 1).bind fun bt107 => ((rec_Words.f 1 (⟨#[109]⟩ : ByteArray) (⟨#[]⟩ : ByteArray) 0).bind fun bt109 => ((some (([] : List Int) : List Int)).bind fun y113 => (if 32 ≤ (bt101.1.length : Int) then ((some (bt101.1.take 32 : List Int)).bind fun y116 => (if y113.length + y116.length < 17592186044416 then ((some (y113 ++ y116 : List Int)).bind fun y120 => (if y120.length + bt109.1.length < 17592186044416 then ((some (y120 ++ bt109.1 : List Int)).bind fun y123 => (if 48 ≤ (bt101.1.length : Int) then ((some (bt101.1.drop 48 : List Int)).bind fun y126 => (if y123.length + y126.length < 17592186044416 then ((some (y123 ++ y126 : List Int)).bind fun y130 => ((index_Place.f y130 0 0 0 0 (([2] : List Int)) (⟨#[109]⟩ : ByteArray)).bind fun bt136 => ((index_Place.f y130 0 0 0 0 (([2] : List Int)) (⟨#[120]⟩ : ByteArray)).bind fun bt141 => (if bt105.1 = 1 then (if bt105.2 = 0 then (if bt107.2 = 90 then (if bt136.1 = 0 then (if bt136.2 = true then (if bt141.1 = 1 then (some (!bt141.2)) else (none)) else (none)) else (none)) else (none)) else (none)) else (none))))) else (none))) else (none))) else (none))) else (none))) else (none)))))) else (none))) = some r := h
 clear h
 replace H := Option.bind_eq_some_iff.mp H
 obtain ⟨⟨t101, t102⟩, A10, H⟩ := H
 try dsimp only at H
 have A1 := Aside0.mk A10
 clear A10
 by_cases c2 : (t101.length : Int) = 64
 rw [if_pos c2] at H
 have c2b0 : ((t101.length : Int) == 64) = true := beq_iff_eq.mpr c2
 have c2b1 : ((t101.length : Int) != 64) = false := bne_eq_false_iff_eq.mpr c2
 clear c2
 replace H := Option.bind_eq_some_iff.mp H
 obtain ⟨⟨tv1, tv2⟩, Av1, H⟩ := H
 try dsimp only at H
 have Av2 := Aside0.mk Av1
 clear Av1
 replace H := Option.bind_eq_some_iff.mp H
 obtain ⟨⟨tv3, tv4⟩, Av3, H⟩ := H
 try dsimp only at H
 have Av4 := Aside0.mk Av3
 clear Av3
 replace H := Option.bind_eq_some_iff.mp H
 obtain ⟨⟨tv5, tv6⟩, Av5, H⟩ := H
 try dsimp only at H
 have Av6 := Aside0.mk Av5
 clear Av5
 obtain ⟨y113, hyv1⟩ : ∃ y_ : List Int, y_ = (([] : List Int)) := ⟨_, rfl⟩
 replace H : (if 32 ≤ (t101.length : Int) then ((some (t101.take 32 : List Int)).bind fun y116 => (if y113.length + y116.length < 17592186044416 then ((some (y113 ++ y116 : List Int)).bind fun y120 => (if y120.length + tv5.length < 17592186044416 then ((some (y120 ++ tv5 : List Int)).bind fun y123 => (if 48 ≤ (t101.length : Int) then ((some (t101.drop 48 : List Int)).bind fun y126 => (if y123.length + y126.length < 17592186044416 then ((some (y123 ++ y126 : List Int)).bind fun y130 => ((index_Place.f y130 0 0 0 0 (([2] : List Int)) (⟨#[109]⟩ : ByteArray)).bind fun bt136 => ((index_Place.f y130 0 0 0 0 (([2] : List Int)) (⟨#[120]⟩ : ByteArray)).bind fun bt141 => (if tv1 = 1 then (if tv2 = 0 then (if tv4 = 90 then (if bt136.1 = 0 then (if bt136.2 = true then (if bt141.1 = 1 then (some (!bt141.2)) else (none)) else (none)) else (none)) else (none)) else (none)) else (none))))) else (none))) else (none))) else (none))) else (none))) else (none)) = some r := by first | (rw [hyv1]; with_reducible exact H) | (have H2_ := (Option.bind_some _ _).symm.trans H; rw [hyv1]; with_reducible exact H2_) | (have H2_ := (Option.bind_some _ _).symm.trans H; with_reducible exact H2_) | with_reducible exact H | (rw [hyv1]; exact H) | exact H
 have Nyv1 := Aside0.mk hyv1
 clear hyv1
 by_cases cv1 : 32 ≤ (t101.length : Int)
 rw [if_pos cv1] at H
 have c6b0 := eq_true cv1
 have c6b1 : decide (32 ≤ (t101.length : Int)) = true := decide_eq_true cv1
 clear cv1
 obtain ⟨y116, hyv2⟩ : ∃ y_ : List Int, y_ = (t101.take 32) := ⟨_, rfl⟩
 replace H : (if y113.length + y116.length < 17592186044416 then ((some (y113 ++ y116 : List Int)).bind fun y120 => (if y120.length + tv5.length < 17592186044416 then ((some (y120 ++ tv5 : List Int)).bind fun y123 => (if 48 ≤ (t101.length : Int) then ((some (t101.drop 48 : List Int)).bind fun y126 => (if y123.length + y126.length < 17592186044416 then ((some (y123 ++ y126 : List Int)).bind fun y130 => ((index_Place.f y130 0 0 0 0 (([2] : List Int)) (⟨#[109]⟩ : ByteArray)).bind fun bt136 => ((index_Place.f y130 0 0 0 0 (([2] : List Int)) (⟨#[120]⟩ : ByteArray)).bind fun bt141 => (if tv1 = 1 then (if tv2 = 0 then (if tv4 = 90 then (if bt136.1 = 0 then (if bt136.2 = true then (if bt141.1 = 1 then (some (!bt141.2)) else (none)) else (none)) else (none)) else (none)) else (none)) else (none))))) else (none))) else (none))) else (none))) else (none)) = some r := by first | (rw [hyv2]; with_reducible exact H) | (have H2_ := (Option.bind_some _ _).symm.trans H; rw [hyv2]; with_reducible exact H2_) | (have H2_ := (Option.bind_some _ _).symm.trans H; with_reducible exact H2_) | with_reducible exact H | (rw [hyv2]; exact H) | exact H
 have Nyv2 := Aside0.mk hyv2
 clear hyv2
 by_cases cv2 : y113.length + y116.length < 17592186044416
 rw [if_pos cv2] at H
 have LMcv1 := Aside0.mk cv2
 clear cv2
 obtain ⟨y120, hyv3⟩ : ∃ y_ : List Int, y_ = (y113 ++ y116) := ⟨_, rfl⟩
 replace H : (if y120.length + tv5.length < 17592186044416 then ((some (y120 ++ tv5 : List Int)).bind fun y123 => (if 48 ≤ (t101.length : Int) then ((some (t101.drop 48 : List Int)).bind fun y126 => (if y123.length + y126.length < 17592186044416 then ((some (y123 ++ y126 : List Int)).bind fun y130 => ((index_Place.f y130 0 0 0 0 (([2] : List Int)) (⟨#[109]⟩ : ByteArray)).bind fun bt136 => ((index_Place.f y130 0 0 0 0 (([2] : List Int)) (⟨#[120]⟩ : ByteArray)).bind fun bt141 => (if tv1 = 1 then (if tv2 = 0 then (if tv4 = 90 then (if bt136.1 = 0 then (if bt136.2 = true then (if bt141.1 = 1 then (some (!bt141.2)) else (none)) else (none)) else (none)) else (none)) else (none)) else (none))))) else (none))) else (none))) else (none)) = some r := by first | (rw [hyv3]; with_reducible exact H) | (have H2_ := (Option.bind_some _ _).symm.trans H; rw [hyv3]; with_reducible exact H2_) | (have H2_ := (Option.bind_some _ _).symm.trans H; with_reducible exact H2_) | with_reducible exact H | (rw [hyv3]; exact H) | exact H
 have Nyv3 := Aside0.mk hyv3
 clear hyv3
 by_cases cv3 : y120.length + tv5.length < 17592186044416
 rw [if_pos cv3] at H
 have LMcv2 := Aside0.mk cv3
 clear cv3
 obtain ⟨y123, hyv4⟩ : ∃ y_ : List Int, y_ = (y120 ++ tv5) := ⟨_, rfl⟩
 replace H : (if 48 ≤ (t101.length : Int) then ((some (t101.drop 48 : List Int)).bind fun y126 => (if y123.length + y126.length < 17592186044416 then ((some (y123 ++ y126 : List Int)).bind fun y130 => ((index_Place.f y130 0 0 0 0 (([2] : List Int)) (⟨#[109]⟩ : ByteArray)).bind fun bt136 => ((index_Place.f y130 0 0 0 0 (([2] : List Int)) (⟨#[120]⟩ : ByteArray)).bind fun bt141 => (if tv1 = 1 then (if tv2 = 0 then (if tv4 = 90 then (if bt136.1 = 0 then (if bt136.2 = true then (if bt141.1 = 1 then (some (!bt141.2)) else (none)) else (none)) else (none)) else (none)) else (none)) else (none))))) else (none))) else (none)) = some r := by first | (rw [hyv4]; with_reducible exact H) | (have H2_ := (Option.bind_some _ _).symm.trans H; rw [hyv4]; with_reducible exact H2_) | (have H2_ := (Option.bind_some _ _).symm.trans H; with_reducible exact H2_) | with_reducible exact H | (rw [hyv4]; exact H) | exact H
 have Nyv4 := Aside0.mk hyv4
 clear hyv4
 by_cases cv4 : 48 ≤ (t101.length : Int)
 rw [if_pos cv4] at H
 have c9b0 := eq_true cv4
 have c9b1 : decide (48 ≤ (t101.length : Int)) = true := decide_eq_true cv4
 clear cv4
 obtain ⟨y126, hyv5⟩ : ∃ y_ : List Int, y_ = (t101.drop 48) := ⟨_, rfl⟩
 replace H : (if y123.length + y126.length < 17592186044416 then ((some (y123 ++ y126 : List Int)).bind fun y130 => ((index_Place.f y130 0 0 0 0 (([2] : List Int)) (⟨#[109]⟩ : ByteArray)).bind fun bt136 => ((index_Place.f y130 0 0 0 0 (([2] : List Int)) (⟨#[120]⟩ : ByteArray)).bind fun bt141 => (if tv1 = 1 then (if tv2 = 0 then (if tv4 = 90 then (if bt136.1 = 0 then (if bt136.2 = true then (if bt141.1 = 1 then (some (!bt141.2)) else (none)) else (none)) else (none)) else (none)) else (none)) else (none))))) else (none)) = some r := by first | (rw [hyv5]; with_reducible exact H) | (have H2_ := (Option.bind_some _ _).symm.trans H; rw [hyv5]; with_reducible exact H2_) | (have H2_ := (Option.bind_some _ _).symm.trans H; with_reducible exact H2_) | with_reducible exact H | (rw [hyv5]; exact H) | exact H
 have Nyv5 := Aside0.mk hyv5
 clear hyv5
 by_cases cv5 : y123.length + y126.length < 17592186044416
 rw [if_pos cv5] at H
 have LMcv3 := Aside0.mk cv5
 clear cv5
 obtain ⟨y130, hyv6⟩ : ∃ y_ : List Int, y_ = (y123 ++ y126) := ⟨_, rfl⟩
 replace H : ((index_Place.f y130 0 0 0 0 (([2] : List Int)) (⟨#[109]⟩ : ByteArray)).bind fun bt136 => ((index_Place.f y130 0 0 0 0 (([2] : List Int)) (⟨#[120]⟩ : ByteArray)).bind fun bt141 => (if tv1 = 1 then (if tv2 = 0 then (if tv4 = 90 then (if bt136.1 = 0 then (if bt136.2 = true then (if bt141.1 = 1 then (some (!bt141.2)) else (none)) else (none)) else (none)) else (none)) else (none)) else (none)))) = some r := by first | (rw [hyv6]; with_reducible exact H) | (have H2_ := (Option.bind_some _ _).symm.trans H; rw [hyv6]; with_reducible exact H2_) | (have H2_ := (Option.bind_some _ _).symm.trans H; with_reducible exact H2_) | with_reducible exact H | (rw [hyv6]; exact H) | exact H
 have Nyv6 := Aside0.mk hyv6
 clear hyv6
 obtain ⟨yv1, hyv7⟩ : ∃ y_ : List Int, y_ = (([2] : List Int)) := ⟨_, rfl⟩
 replace H : ((index_Place.f y130 0 0 0 0 yv1 (⟨#[109]⟩ : ByteArray)).bind fun bt136 => ((index_Place.f y130 0 0 0 0 (([2] : List Int)) (⟨#[120]⟩ : ByteArray)).bind fun bt141 => (if tv1 = 1 then (if tv2 = 0 then (if tv4 = 90 then (if bt136.1 = 0 then (if bt136.2 = true then (if bt141.1 = 1 then (some (!bt141.2)) else (none)) else (none)) else (none)) else (none)) else (none)) else (none)))) = some r := by first | (rw [hyv7]; with_reducible exact H) | (have H2_ := (Option.bind_some _ _).symm.trans H; rw [hyv7]; with_reducible exact H2_) | (have H2_ := (Option.bind_some _ _).symm.trans H; with_reducible exact H2_) | with_reducible exact H | (rw [hyv7]; exact H) | exact H
 have Nyv7 := Aside0.mk hyv7
 clear hyv7
 replace H := Option.bind_eq_some_iff.mp H
 obtain ⟨⟨tv7, tv8⟩, Av7, H⟩ := H
 try dsimp only at H
 have Av8 := Aside0.mk Av7
 clear Av7
 obtain ⟨yv2, hyv8⟩ : ∃ y_ : List Int, y_ = (([2] : List Int)) := ⟨_, rfl⟩
 replace H : ((index_Place.f y130 0 0 0 0 yv2 (⟨#[120]⟩ : ByteArray)).bind fun bt141 => (if tv1 = 1 then (if tv2 = 0 then (if tv4 = 90 then (if tv7 = 0 then (if tv8 = true then (if bt141.1 = 1 then (some (!bt141.2)) else (none)) else (none)) else (none)) else (none)) else (none)) else (none))) = some r := by first | (rw [hyv8]; with_reducible exact H) | (have H2_ := (Option.bind_some _ _).symm.trans H; rw [hyv8]; with_reducible exact H2_) | (have H2_ := (Option.bind_some _ _).symm.trans H; with_reducible exact H2_) | with_reducible exact H | (rw [hyv8]; exact H) | exact H
 have Nyv8 := Aside0.mk hyv8
 clear hyv8
 replace H := Option.bind_eq_some_iff.mp H
 obtain ⟨⟨tv9, tv10⟩, Av9, H⟩ := H
 try dsimp only at H
 have Av10 := Aside0.mk Av9
 clear Av9
 by_cases cv6 : tv1 = 1
 rw [if_pos cv6] at H
 have c13b0 : (tv1 == 1) = true := beq_iff_eq.mpr cv6
 have c13b1 : (tv1 != 1) = false := bne_eq_false_iff_eq.mpr cv6
 clear cv6
 by_cases cv7 : tv2 = 0
 rw [if_pos cv7] at H
 have c14b0 : (tv2 == 0) = true := beq_iff_eq.mpr cv7
 have c14b1 : (tv2 != 0) = false := bne_eq_false_iff_eq.mpr cv7
 clear cv7
 by_cases cv8 : tv4 = 90
 rw [if_pos cv8] at H
 have c15b0 : (tv4 == 90) = true := beq_iff_eq.mpr cv8
 have c15b1 : (tv4 != 90) = false := bne_eq_false_iff_eq.mpr cv8
 clear cv8
 by_cases cv9 : tv7 = 0
 rw [if_pos cv9] at H
 have c16b0 : (tv7 == 0) = true := beq_iff_eq.mpr cv9
 have c16b1 : (tv7 != 0) = false := bne_eq_false_iff_eq.mpr cv9
 clear cv9
 by_cases cv10 : tv8 = true
 subst cv10
 have Hv1 : (if tv9 = 1 then (some (!tv10)) else (none)) = some r := by rw [if_pos rfl] at H; exact H
 clear H
 have H := Hv1
 clear Hv1
 by_cases cv11 : tv9 = 1
 · rw [if_pos cv11] at H
   have c18b0 : (tv9 == 1) = true := beq_iff_eq.mpr cv11
   have c18b1 : (tv9 != 1) = false := bne_eq_false_iff_eq.mpr cv11
   clear cv11
   obtain rfl := Option.some.inj H
   go_enter Try.func14, Try.ntmps14
   try go_wp2_with (first | ((with_reducible refine gate_callee (f := 37) rfl ?_); refine goesL_ (some 14) rfl rfl Try.func37 (by kernel_rfl) rfl #[.int .i64 4] rfl qm_ ?_; (with_reducible refine (arena_New.calls 4 t101 t102 _ A1.out).mono ?_); rintro e wv1 ⟨vv1, rfl, hov1, hb⟩; refine ⟨_, rfl, ?_⟩; have n0_ := Aside0.mk (Kd.R_lower hov1 (below_size qh_)); have n1_ := Aside0.mk (below_step qh_ hb); clear HB; have HOv1 := n0_; have HB := n1_; clear n0_ n1_; (try clear hb); (try clear hbv1); (try clear hk); (try clear hi); (try clear hov1); obtain ⟨Aov1, cov1, eov1⟩ := Kd.R_slice HOv1.out; subst eov1) | ((with_reducible refine gate_callee (f := 17) rfl ?_); refine goesL_ (some 22) rfl rfl Try.func17 (by kernel_rfl) rfl #[.slice Aov1 t101.length cov1, .int .i64 1, .string (⟨#[97]⟩ : ByteArray), .int .i64 0] rfl qm_ ?_; (with_reducible refine (index_Find.calls _ _ t101 1 (⟨#[97]⟩ : ByteArray) 0 tv1 tv2 _ ?side1 ?side2 Av2.out).mono ?_); (case side1 => repeat (first | exact (Kd.R_reads' HOv1.out).2.2 | (with_reducible refine Kd.C_alloc ?_ _) | (with_reducible refine Kd.C_drewN ?_ _) | (with_reducible refine Kd.C_drew ?_))); (case side2 => exact (Kd.R_reads' HOv1.out).2.1); rintro e wv2 ⟨rfl, hb⟩; refine ⟨_, rfl, ?_⟩; have n0_ := Aside0.mk (Kd.R_below (qr_ HOv1.out) hb); have n1_ := Aside0.mk (below_step qh_ hb); clear HOv1; clear HB; have HOv1 := n0_; have HB := n1_; clear n0_ n1_; (try clear hb); (try clear hbv1); (try clear hk); (try clear hi)) | ((with_reducible refine gate_callee (f := 15) rfl ?_); refine goesL_ (some 27) rfl rfl Try.func15 (by kernel_rfl) rfl #[.slice Aov1 t101.length cov1, .int .i64 1, .string (⟨#[97]⟩ : ByteArray), .int .i64 1] rfl qm_ ?_; (with_reducible refine (index_Down.calls _ _ t101 1 (⟨#[97]⟩ : ByteArray) 1 tv3 tv4 _ ?side1 ?side2 Av4.out).mono ?_); (case side1 => repeat (first | exact (Kd.R_reads' HOv1.out).2.2 | (with_reducible refine Kd.C_alloc ?_ _) | (with_reducible refine Kd.C_drewN ?_ _) | (with_reducible refine Kd.C_drew ?_))); (case side2 => exact (Kd.R_reads' HOv1.out).2.1); rintro e wv3 ⟨rfl, hb⟩; refine ⟨_, rfl, ?_⟩; have n0_ := Aside0.mk (Kd.R_below (qr_ HOv1.out) hb); have n1_ := Aside0.mk (below_step qh_ hb); clear HOv1; clear HB; have HOv1 := n0_; have HB := n1_; clear n0_ n1_; (try clear hb); (try clear hbv1); (try clear hk); (try clear hi)) | ((with_reducible refine gate_callee (f := 38) rfl ?_); refine goesL_ (some 32) rfl rfl Try.func38 (by kernel_rfl) rfl #[.agg #[.int .i64 1, .string (⟨#[109]⟩ : ByteArray), .string (⟨#[]⟩ : ByteArray), .int .i64 0]] rfl qm_ ?_; (with_reducible refine (rec_Words.calls 1 (⟨#[109]⟩ : ByteArray) (⟨#[]⟩ : ByteArray) 0 tv5 tv6 _ Av6.out).mono ?_); rintro e wv4 ⟨vv2, rfl, hov1, hb⟩; refine ⟨_, rfl, ?_⟩; have n0_ := Aside0.mk (Kd.R_below (qr_ HOv1.out) hb); have n1_ := Aside0.mk (Kd.V_lower (Kd.V_mono (ok' := fun k_ => some k_ ≠ (.slice Aov1 t101.length cov1 : Value).ownBlock) hov1 (fun k_ hk_ => (Kd.fresh' (Kd.R_lt (qr_ HOv1.out)) k_ hk_))) (below_size qh_)); have n2_ := Aside0.mk (below_step qh_ hb); clear HOv1; clear HB; have HOv1 := n0_; have HOv2 := n1_; have HB := n2_; clear n0_ n1_ n2_; (try clear hb); (try clear hbv1); (try clear hk); (try clear hi); (try clear hov1)))
   have n0_ := Aside0.mk (Kd.R_drew HOv1.out)
   have n1_ := Aside0.mk (Kd.V_drew HOv2.out)
   have n2_ := Aside0.mk (below_drew1 HB.out)
   clear HOv1
   clear HOv2
   clear HB
   have HOv1 := n0_
   have HOv2 := n1_
   have HB := n2_
   clear n0_ n1_ n2_
   have qv1 : (32 : Int) ≤ ((t101.length : Int) : Int) := of_decide_eq_true (by first | (with_reducible assumption) | assumption)
   obtain ⟨iv1, hiv1, _, hszv1, _⟩ := info_parts info3
   have hroomv1 : t101.length ≤ cov1 := (Kd.R_reads' HOv1.out).2.1
   have hCv1 : Kd.C (Kd.int .i64) _ Aov1 t101.length t101 := (Kd.R_reads' HOv1.out).2.2
   have hcutv1 := cut_to (P := Try.prog) 22 3 .i64 Try.underlying22 hiv1 Aov1 t101.length cov1 32 (by omega) qv1 hroomv1
   have hrv1 := Kd.C_take (m := 32) hCv1 (by omega)
   have hyv9 : y116.length = (32 : Int).toNat := (by rw [Nyv2.out, List.length_take]; omega)
   rw [← Nyv2.out] at hrv1
   rw [← hyv9] at hcutv1
   have HRv1 := Aside0.mk hrv1
   have HCv1 := Aside0.mk (show y116.length ≤ cov1 from by omega)
   clear hrv1 hCv1 hroomv1 hiv1 hszv1
   have KYv1 := Aside0.mk hyv9
   clear hyv9
   have KLv1 := Aside0.mk (show 32 ≤ t101.length from by omega)
   replace qv1 := eq_true qv1
   have qv2 : (48 : Int) ≤ ((t101.length : Int) : Int) := of_decide_eq_true (by first | (with_reducible assumption) | assumption)
   obtain ⟨iv2, hiv2, _, hszv2, _⟩ := info_parts info3
   have hroomv2 : t101.length ≤ cov1 := (Kd.R_reads' HOv1.out).2.1
   have hCv2 : Kd.C (Kd.int .i64) _ Aov1 t101.length t101 := (Kd.R_reads' HOv1.out).2.2
   have hcutv2 := cut_from (P := Try.prog) 22 3 .i64 Try.underlying22 hiv2 1 hszv2 Aov1 t101.length cov1 48 (by omega) qv2
   have hrv2 := Kd.C_drop (m := (48 : Int).toNat) (c := cov1) hCv2 (by omega) hroomv2
   obtain ⟨Av11, hAv1⟩ : ∃ A1, A1 = (if cov1 = (48 : Int).toNat then Aov1 else (Aov1 : Option Addr).map (·.add ((48 : Int).toNat * 1))) := ⟨_, rfl⟩
   obtain ⟨cv12, hcv1⟩ : ∃ cv13, cv13 = cov1 - (48 : Int).toNat := ⟨_, rfl⟩
   have hyv10 : y126.length = t101.length - (48 : Int).toNat := (by rw [Nyv5.out, List.length_drop] <;> omega)
   rw [show (t101).drop (48 : Int).toNat = y126 from Nyv5.out.symm] at hrv2
   replace hrv2 : Kd.C (Kd.int .i64) _ Av11 y126.length y126 := (by rw [hAv1]; exact hrv2)
   rw [← hyv10, ← hAv1, ← hcv1] at hcutv2
   have HRv2 := Aside0.mk hrv2
   have HCv2 := Aside0.mk (show y126.length ≤ cv12 from by rw [hyv10, hcv1]; exact Nat.sub_le_sub_right hroomv2 _)
   clear hrv2 hCv2 hroomv2 hiv2 hszv2 hcv1
   have KYv2 := Aside0.mk hyv10
   have KAv1 := Aside0.mk hAv1
   clear hyv10 hAv1
   have KLv2 := Aside0.mk (show 48 ≤ t101.length from by omega)
   replace qv2 := eq_true qv2
   refine start_ (n := 10) (S := fun w' => True) (ds := []) #[false, false, false, false, false, false, false, false, false, false] (by kernel_rfl) rfl rfl trivial (fun hHeld => ?_); refine with_tabW lamplighterlaw15_awake.tab7 lamplighterlaw15_awake.bits7 (fun HT_ HW_ => ?_)
   generalize wv4.drew = wv5 at HOv1 HOv2 HB HRv1 HRv2 hHeld ⊢
   refine pure_ (i := 1) (N := some 36) (v := ?_) (a' := ?_) #[false, true, false, false, false, false, false, false, false, false] rfl rfl (any_of HT_.out (by kernel_rfl)) (fun _ _ _ h => h) (Or.inl ⟨by rfl, ?_⟩) ?_ ?_
   rotate_left
   · intro w'
     go_simp
     with_reducible rfl
   rotate_left
   · simp only [Act.put, List.setIfInBounds_toArray, List.set_cons_zero, List.set_cons_succ, i64_w, i32_w]
     rfl
   refine pure_ (i := 2) (N := some 37) (v := ?_) (a' := ?_) #[false, true, true, false, false, false, false, false, false, false] rfl rfl (any_of HT_.out (by kernel_rfl)) (fun _ _ _ h => h) (Or.inl ⟨by rfl, ?_⟩) ?_ ?_
   rotate_left
   · intro w'
     go_simp
     with_reducible rfl
   rotate_left
   · simp only [Act.put, List.setIfInBounds_toArray, List.set_cons_zero, List.set_cons_succ, i64_w, i32_w]
     rfl
   refine pure_ (i := 4) (N := some 39) (v := ?_) (a' := ?_) #[false, true, true, false, true, false, false, false, false, false] rfl rfl (any_of HT_.out (by kernel_rfl)) (fun _ _ _ h => h) (Or.inl ⟨by rfl, ?_⟩) ?_ ?_
   rotate_left
   · intro w'
     go_simp
     with_reducible rfl
   rotate_left
   · simp only [Act.put, List.setIfInBounds_toArray, List.set_cons_zero, List.set_cons_succ, i64_w, i32_w]
     rfl
   refine pure_ (i := 6) (N := some 41) (v := ?_) (a' := ?_) #[false, true, true, false, true, false, true, false, false, false] rfl rfl (any_of HT_.out (by kernel_rfl)) (fun _ _ _ h => h) (Or.inl ⟨by rfl, ?_⟩) ?_ ?_
   rotate_left
   · intro w'
     go_simp
     with_reducible rfl
   rotate_left
   · simp only [Act.put, List.setIfInBounds_toArray, List.set_cons_zero, List.set_cons_succ, i64_w, i32_w]
     rfl
   refine pure_ (i := 7) (N := some 42) (v := ?_) (a' := ?_) #[false, true, true, false, true, false, true, true, false, false] rfl rfl (any_of HT_.out (by kernel_rfl)) (fun _ _ _ h => h) (Or.inl ⟨by rfl, ?_⟩) ?_ ?_
   rotate_left
   · intro w'
     go_simp
     with_reducible rfl
   rotate_left
   · simp only [Act.put, List.setIfInBounds_toArray, List.set_cons_zero, List.set_cons_succ, i64_w, i32_w]
     rfl
   refine one_ (i := 0) (N := some 35) #[true, true, true, false, true, false, true, true, false, false] rfl rfl (one_of HT_.out (by kernel_rfl)) (by decide) (fun K hK => ?_)
   refine Kd.R_lit_step (Kd.int .i64) _ 3 ?hg (N := 35) ?hd (xs := ([] : List Int)) (inner := []) (ok := fun _ => True) (okp := fun _ => True) ?hr ?hp (fun _ hk => hk) trivial (Below.refl _ _) (Nat.le_refl _) (by simp) ?_; (case hd => rfl); (case hg => rfl); (case hr => first | (go_simp; done) | (go_simp; rfl)); (case hp => exact (Reps.none _ _))
   intro vv3 wv6 hov2 hb hg_ hnew_
   clear hg_ hnew_
   (first | rw [← Nyv1.out] at hov2 | (simp only [Int.reduceToNat] at hov2; rw [← Nyv1.out] at hov2))
   have n0_ := Aside0.mk (Kd.R_elder' (qr_ HOv1.out) (Kd.R_base hov2) hb)
   have n1_ := Aside0.mk (Kd.V_elder' (by (with_reducible repeat (first | apply Kd.V_alloc | apply Kd.V_drewN | apply Kd.V_drew)); exact HOv2.out) (Kd.R_base hov2) hb)
   have n2_ := Aside0.mk (Kd.R_lower (Kd.R_new' hov2 (Kd.R_lt (qr_ HOv1.out))) (below_size qh_))
   have n3_ := Aside0.mk (Kd.C_below (by repeat (first | (with_reducible exact HRv1.out) | (with_reducible refine Kd.C_alloc ?_ _) | (with_reducible refine Kd.C_drewN ?_ _) | (with_reducible refine Kd.C_drew ?_) | exact HRv1.out)) hb)
   have n4_ := Aside0.mk (Kd.C_below (by repeat (first | (with_reducible exact HRv2.out) | (with_reducible refine Kd.C_alloc ?_ _) | (with_reducible refine Kd.C_drewN ?_ _) | (with_reducible refine Kd.C_drew ?_) | exact HRv2.out)) hb)
   have n5_ := Aside0.mk (below_step qh_ hb)
   clear HOv1
   clear HOv2
   clear HRv1
   clear HRv2
   clear HB
   have HOv1 := n0_
   have HOv2 := n1_
   have HOv3 := n2_
   have HRv1 := n3_
   have HRv2 := n4_
   have HB := n5_
   clear n0_ n1_ n2_ n3_ n4_ n5_
   clear hb hov2
   refine hK.out _ _ trivial (fun hHeld => ?_)
   clear hK K
   refine norm_ (a' := ?_) ?_ ?_
   rotate_left
   · show Act.put _ (some 35) _ = _
     simp only [Act.put, List.setIfInBounds_toArray, List.set_cons_zero, List.set_cons_succ, i64_w, i32_w]
     rfl
   refine one_ (i := 3) (N := some 38) #[true, true, true, true, true, false, true, true, false, false] rfl rfl (one_of HT_.out (by kernel_rfl)) (by decide) (fun K hK => ?_)
   refine Kd.R_append_rows_step (Kd.int .i64) (w0 := w) w.heap.size (by rfl) (.tmp 35) (.tmp 37) 22 3 (.int .i64 0) 8 rfl Try.underlying22 info3 rfl (by decide) (by omega) vv3 y113 y116 _ _ _ (fun k_ => some k_ ≠ (.slice Aov1 t101.length cov1 : Value).ownBlock) (fun _ => False) rfl rfl ?aO ?aR (fun _ _ h => h) (fun _ h => h.elim) ?aF ?aB ?aS ?aL ?_
   (case aR => repeat (first | exact (by repeat (first | (with_reducible exact HRv1.out) | (with_reducible refine Kd.C_alloc ?_ _) | (with_reducible refine Kd.C_drewN ?_ _) | (with_reducible refine Kd.C_drew ?_) | exact HRv1.out)) | (with_reducible refine Kd.C_alloc ?_ _) | (with_reducible refine Kd.C_drewN ?_ _) | (with_reducible refine Kd.C_drew ?_)))
   (case aB => exact qh_)
   (case aF => exact (fun k_ hk => Kd.fresh' (Kd.R_lt (qr_ HOv1.out)) k_ hk))
   (case aO => exact (by (with_reducible repeat (first | apply Kd.R_alloc | apply Kd.R_drewN | apply Kd.R_drew)); exact Kd.R_mono HOv3.out (fun _ hk => hk.2)))
   (case aS => exact (below_size qh_))
   (case aL => have := LMcv1.out; omega)
   intro vv4 wv7 ho hb hg hat
   rw [← Nyv3.out] at ho
   have n0_ := Aside0.mk (Kd.R_after (ok := (fun _ => True)) (qr_ HOv1.out) hg hat)
   have n1_ := Aside0.mk (Kd.V_afterv (ok := (fun k_ => some k_ ≠ (.slice Aov1 t101.length cov1 : Value).ownBlock)) (by (with_reducible repeat (first | apply Kd.V_alloc | apply Kd.V_drewN | apply Kd.V_drew)); exact HOv2.out) hg hat)
   have n2_ := Aside0.mk (hb)
   have n3_ := Aside0.mk ((show Kd.C (Kd.int .i64) wv7 Aov1 y116.length y116 from by rw [Nyv2.out]; exact Kd.C_take (m := 32) ((Kd.R_reads' (Kd.R_after (ok := (fun _ => True)) (qr_ HOv1.out) hg hat)).2.2) KLv1.out))
   have n4_ := Aside0.mk ((show Kd.C (Kd.int .i64) wv7 Av11 y126.length y126 from by rw [Nyv5.out, KAv1.out]; exact Kd.C_drop (m := 48) (c := cov1) ((Kd.R_reads' (Kd.R_after (ok := (fun _ => True)) (qr_ HOv1.out) hg hat)).2.2) KLv2.out ((Kd.R_reads' (Kd.R_after (ok := (fun _ => True)) (qr_ HOv1.out) hg hat)).2.1)))
   have n5_ := Aside0.mk (ho)
   clear HOv1
   clear HOv2
   clear HB
   clear HRv1
   clear HRv2
   clear HOv3
   have HOv1 := n0_
   have HOv2 := n1_
   have HB := n2_
   have HRv1 := n3_
   have HRv2 := n4_
   have HOv4 := n5_
   clear n0_ n1_ n2_ n3_ n4_ n5_
   clear ho hb hg hat
   obtain ⟨Aov2, cov2, eov2⟩ := Kd.V_slice HOv2.out
   (first | subst eov2 | (injection eov2 with f1_ f2_ f3_; have f4_ := f1_.symm; have f5_ := f3_.symm; clear f1_ f2_ f3_; subst f4_; subst f5_))
   refine hK.out _ _ trivial (fun hHeld => ?_)
   clear hK K
   refine norm_ (a' := ?_) ?_ ?_
   rotate_left
   · show Act.put _ (some 38) _ = _
     simp only [Act.put, List.setIfInBounds_toArray, List.set_cons_zero, List.set_cons_succ, i64_w, i32_w]
     rfl
   refine one_ (i := 5) (N := some 40) #[true, true, true, true, true, true, true, true, false, false] rfl rfl (one_of HT_.out (by kernel_rfl)) (by decide) (fun K hK => ?_)
   refine Kd.R_append_rows_step (Kd.int .i64) (w0 := w) w.heap.size (by rfl) (.tmp 38) (.tmp 39) 22 3 (.int .i64 0) 8 rfl Try.underlying22 info3 rfl (by decide) (by omega) vv4 y120 tv5 _ _ _ (fun k_ => some k_ ≠ (.slice Aov1 t101.length cov1 : Value).ownBlock) (fun _ => False) rfl rfl ?aO ?aR (fun _ _ h => h) (fun _ h => h.elim) ?aF ?aB ?aS ?aL ?_
   (case aR => repeat (first | exact (Kd.V_reads' HOv2.out).2.2 | (with_reducible refine Kd.C_alloc ?_ _) | (with_reducible refine Kd.C_drewN ?_ _) | (with_reducible refine Kd.C_drew ?_)))
   (case aB => exact qh_)
   (case aF => exact (fun k_ hk => Kd.fresh' (Kd.R_lt (qr_ HOv1.out)) k_ hk))
   (case aO => exact (qr_ HOv4.out))
   (case aS => exact (below_size qh_))
   (case aL => have := LMcv2.out; omega)
   intro vv5 wv8 ho hb hg hat
   rw [← Nyv4.out] at ho
   have n0_ := Aside0.mk (Kd.R_after (ok := (fun _ => True)) (qr_ HOv1.out) hg hat)
   have n1_ := Aside0.mk (Kd.V_afterv (ok := (fun k_ => some k_ ≠ (.slice Aov1 t101.length cov1 : Value).ownBlock)) (by (with_reducible repeat (first | apply Kd.V_alloc | apply Kd.V_drewN | apply Kd.V_drew)); exact HOv2.out) hg hat)
   have n2_ := Aside0.mk (hb)
   have n3_ := Aside0.mk ((show Kd.C (Kd.int .i64) wv8 Aov1 y116.length y116 from by rw [Nyv2.out]; exact Kd.C_take (m := 32) ((Kd.R_reads' (Kd.R_after (ok := (fun _ => True)) (qr_ HOv1.out) hg hat)).2.2) KLv1.out))
   have n4_ := Aside0.mk ((show Kd.C (Kd.int .i64) wv8 Av11 y126.length y126 from by rw [Nyv5.out, KAv1.out]; exact Kd.C_drop (m := 48) (c := cov1) ((Kd.R_reads' (Kd.R_after (ok := (fun _ => True)) (qr_ HOv1.out) hg hat)).2.2) KLv2.out ((Kd.R_reads' (Kd.R_after (ok := (fun _ => True)) (qr_ HOv1.out) hg hat)).2.1)))
   have n5_ := Aside0.mk (ho)
   clear HOv1
   clear HOv2
   clear HB
   clear HRv1
   clear HRv2
   clear HOv4
   have HOv1 := n0_
   have HOv2 := n1_
   have HB := n2_
   have HRv1 := n3_
   have HRv2 := n4_
   have HOv5 := n5_
   clear n0_ n1_ n2_ n3_ n4_ n5_
   clear ho hb hg hat
   refine hK.out _ _ trivial (fun hHeld => ?_)
   clear hK K
   refine norm_ (a' := ?_) ?_ ?_
   rotate_left
   · show Act.put _ (some 40) _ = _
     simp only [Act.put, List.setIfInBounds_toArray, List.set_cons_zero, List.set_cons_succ, i64_w, i32_w]
     rfl
   refine one_ (i := 8) (N := some 43) #[true, true, true, true, true, true, true, true, true, false] rfl rfl (one_of HT_.out (by kernel_rfl)) (by decide) (fun K hK => ?_)
   refine Kd.R_append_rows_step (Kd.int .i64) (w0 := w) w.heap.size (by rfl) (.tmp 40) (.tmp 42) 22 3 (.int .i64 0) 8 rfl Try.underlying22 info3 rfl (by decide) (by omega) vv5 y123 y126 _ _ _ (fun k_ => some k_ ≠ (.slice Aov1 t101.length cov1 : Value).ownBlock) (fun _ => False) rfl rfl ?aO ?aR (fun _ _ h => h) (fun _ h => h.elim) ?aF ?aB ?aS ?aL ?_
   (case aR => repeat (first | exact (by repeat (first | (with_reducible exact HRv2.out) | (with_reducible refine Kd.C_alloc ?_ _) | (with_reducible refine Kd.C_drewN ?_ _) | (with_reducible refine Kd.C_drew ?_) | exact HRv2.out)) | (with_reducible refine Kd.C_alloc ?_ _) | (with_reducible refine Kd.C_drewN ?_ _) | (with_reducible refine Kd.C_drew ?_)))
   (case aB => exact qh_)
   (case aF => exact (fun k_ hk => Kd.fresh' (Kd.R_lt (qr_ HOv1.out)) k_ hk))
   (case aO => exact (qr_ HOv5.out))
   (case aS => exact (below_size qh_))
   (case aL => have := LMcv3.out; omega)
   intro vv6 wv9 ho hb hg hat
   rw [← Nyv6.out] at ho
   have n0_ := Aside0.mk (Kd.R_after (ok := (fun _ => True)) (qr_ HOv1.out) hg hat)
   have n1_ := Aside0.mk (Kd.V_afterv (ok := (fun k_ => some k_ ≠ (.slice Aov1 t101.length cov1 : Value).ownBlock)) (by (with_reducible repeat (first | apply Kd.V_alloc | apply Kd.V_drewN | apply Kd.V_drew)); exact HOv2.out) hg hat)
   have n2_ := Aside0.mk (hb)
   have n3_ := Aside0.mk ((show Kd.C (Kd.int .i64) wv9 Aov1 y116.length y116 from by rw [Nyv2.out]; exact Kd.C_take (m := 32) ((Kd.R_reads' (Kd.R_after (ok := (fun _ => True)) (qr_ HOv1.out) hg hat)).2.2) KLv1.out))
   have n4_ := Aside0.mk ((show Kd.C (Kd.int .i64) wv9 Av11 y126.length y126 from by rw [Nyv5.out, KAv1.out]; exact Kd.C_drop (m := 48) (c := cov1) ((Kd.R_reads' (Kd.R_after (ok := (fun _ => True)) (qr_ HOv1.out) hg hat)).2.2) KLv2.out ((Kd.R_reads' (Kd.R_after (ok := (fun _ => True)) (qr_ HOv1.out) hg hat)).2.1)))
   have n5_ := Aside0.mk (ho)
   clear HOv1
   clear HOv2
   clear HB
   clear HRv1
   clear HRv2
   clear HOv5
   have HOv1 := n0_
   have HOv2 := n1_
   have HB := n2_
   have HRv1 := n3_
   have HRv2 := n4_
   have HOv6 := n5_
   clear n0_ n1_ n2_ n3_ n4_ n5_
   clear ho hb hg hat
   refine hK.out _ _ trivial (fun hHeld => ?_)
   clear hK K
   refine norm_ (a' := ?_) ?_ ?_
   rotate_left
   · show Act.put _ (some 43) _ = _
     simp only [Act.put, List.setIfInBounds_toArray, List.set_cons_zero, List.set_cons_succ, i64_w, i32_w]
     rfl
   refine pure_ (i := 9) (N := some 1) (v := ?_) (a' := ?_) #[true, true, true, true, true, true, true, true, true, true] rfl rfl (any_of HT_.out (by kernel_rfl)) (fun _ _ _ h => h) (Or.inl ⟨by rfl, ?_⟩) ?_ ?_
   rotate_left
   · intro w'
     go_simp
     with_reducible rfl
   rotate_left
   · simp only [Act.put, List.setIfInBounds_toArray, List.set_cons_zero, List.set_cons_succ, i64_w, i32_w]
     rfl
   refine done_ (done_of HT_.out (by kernel_rfl)) ?_
   try go_wp2_with (first | ((with_reducible refine gate_dst (N := 46) rfl ?_); refine Kd.R_lit (Kd.int .i64) _ 3 ?hg (N := 46) ?hd (xs := ([2] : List Int)) (inner := [.int .i64 2]) (ok := fun _ => True) (okp := fun _ => True) ?hr ?hp (fun _ hk => hk) trivial (Below.refl _ _) (Nat.le_refl _) (by simp) ?_; (case hd => rfl); (case hg => rfl); (case hr => first | (go_simp; done) | (go_simp; rfl)); (case hp => exact (Reps.one (show Kd.M (Kd.int .i64) _ _ _ 2 [.int .i64 2] from rfl) (Reps.none _ _))); intro vv7 wv10 hov3 hb hg_ hnew_; clear hg_ hnew_; (first | rw [← Nyv7.out] at hov3 | (simp only [Int.reduceToNat] at hov3; rw [← Nyv7.out] at hov3)); have n0_ := Aside0.mk (Kd.R_elder' (qr_ HOv1.out) (Kd.R_base hov3) hb); have n1_ := Aside0.mk (Kd.V_elder' (by (with_reducible repeat (first | apply Kd.V_alloc | apply Kd.V_drewN | apply Kd.V_drew)); exact HOv2.out) (Kd.R_base hov3) hb); have n2_ := Aside0.mk (Kd.R_elder' (qr_ HOv6.out) (Kd.R_base hov3) hb); have n3_ := Aside0.mk (Kd.R_lower (Kd.R_new' (Kd.R_new' hov3 (Kd.R_lt (qr_ HOv1.out))) (Kd.R_lt (qr_ HOv6.out))) (below_size qh_)); have n4_ := Aside0.mk (Kd.C_below (by repeat (first | (with_reducible exact HRv1.out) | (with_reducible refine Kd.C_alloc ?_ _) | (with_reducible refine Kd.C_drewN ?_ _) | (with_reducible refine Kd.C_drew ?_) | exact HRv1.out)) hb); have n5_ := Aside0.mk (Kd.C_below (by repeat (first | (with_reducible exact HRv2.out) | (with_reducible refine Kd.C_alloc ?_ _) | (with_reducible refine Kd.C_drewN ?_ _) | (with_reducible refine Kd.C_drew ?_) | exact HRv2.out)) hb); have n6_ := Aside0.mk (below_step qh_ hb); clear HOv1; clear HOv2; clear HOv6; clear HRv1; clear HRv2; clear HB; have HOv1 := n0_; have HOv2 := n1_; have HOv6 := n2_; have HOv7 := n3_; have HRv1 := n4_; have HRv2 := n5_; have HB := n6_; clear n0_ n1_ n2_ n3_ n4_ n5_ n6_; clear hb hov3; obtain ⟨Aov3, cov3, eov3⟩ := Kd.R_slice HOv7.out; subst eov3; obtain ⟨Aov4, cov4, eov4⟩ := Kd.R_slice HOv6.out; subst eov4) | ((with_reducible refine gate_callee (f := 19) rfl ?_); refine goesL_ (some 48) rfl rfl Try.func19 (by kernel_rfl) rfl #[.slice Aov4 y130.length cov4, .agg #[.int .i64 0, .int .i64 0, .int .i64 0, .int .i64 0, .slice Aov3 yv1.length cov3], .string (⟨#[109]⟩ : ByteArray)] rfl qm_ ?_; (with_reducible refine (index_Place.calls _ _ y130 0 0 0 0 _ _ yv1 (⟨#[109]⟩ : ByteArray) tv7 true _ ?side1 ?side2 ?side3 ?side4 Av8.out).mono ?_); (case side1 => repeat (first | exact (Kd.R_reads' HOv6.out).2.2 | (with_reducible refine Kd.C_alloc ?_ _) | (with_reducible refine Kd.C_drewN ?_ _) | (with_reducible refine Kd.C_drew ?_))); (case side2 => exact (Kd.R_reads' HOv6.out).2.1); (case side3 => repeat (first | exact (Kd.R_reads' HOv7.out).2.2 | (with_reducible refine Kd.C_alloc ?_ _) | (with_reducible refine Kd.C_drewN ?_ _) | (with_reducible refine Kd.C_drew ?_))); (case side4 => exact (Kd.R_reads' HOv7.out).2.1); rintro e wv11 ⟨rfl, hb⟩; refine ⟨_, rfl, ?_⟩; have n0_ := Aside0.mk (Kd.R_below (qr_ HOv1.out) hb); have n1_ := Aside0.mk (Kd.V_below (by (with_reducible repeat (first | apply Kd.V_alloc | apply Kd.V_drewN | apply Kd.V_drew)); exact HOv2.out) hb); have n2_ := Aside0.mk (Kd.R_below (qr_ HOv6.out) hb); have n3_ := Aside0.mk (Kd.R_below (qr_ HOv7.out) hb); have n4_ := Aside0.mk (Kd.C_below (by repeat (first | (with_reducible exact HRv1.out) | (with_reducible refine Kd.C_alloc ?_ _) | (with_reducible refine Kd.C_drewN ?_ _) | (with_reducible refine Kd.C_drew ?_) | exact HRv1.out)) hb); have n5_ := Aside0.mk (Kd.C_below (by repeat (first | (with_reducible exact HRv2.out) | (with_reducible refine Kd.C_alloc ?_ _) | (with_reducible refine Kd.C_drewN ?_ _) | (with_reducible refine Kd.C_drew ?_) | exact HRv2.out)) hb); have n6_ := Aside0.mk (below_step qh_ hb); clear HOv1; clear HOv2; clear HOv6; clear HOv7; clear HRv1; clear HRv2; clear HB; have HOv1 := n0_; have HOv2 := n1_; have HOv6 := n2_; have HOv7 := n3_; have HRv1 := n4_; have HRv2 := n5_; have HB := n6_; clear n0_ n1_ n2_ n3_ n4_ n5_ n6_; (try clear hb); (try clear hbv1); (try clear hk); (try clear hi)) | ((with_reducible refine gate_dst (N := 53) rfl ?_); refine Kd.R_lit (Kd.int .i64) _ 3 ?hg (N := 53) ?hd (xs := ([2] : List Int)) (inner := [.int .i64 2]) (ok := fun _ => True) (okp := fun _ => True) ?hr ?hp (fun _ hk => hk) trivial (Below.refl _ _) (Nat.le_refl _) (by simp) ?_; (case hd => rfl); (case hg => rfl); (case hr => first | (go_simp; done) | (go_simp; rfl)); (case hp => exact (Reps.one (show Kd.M (Kd.int .i64) _ _ _ 2 [.int .i64 2] from rfl) (Reps.none _ _))); intro vv8 wv12 hov4 hb hg_ hnew_; clear hg_ hnew_; (first | rw [← Nyv8.out] at hov4 | (simp only [Int.reduceToNat] at hov4; rw [← Nyv8.out] at hov4)); have n0_ := Aside0.mk (Kd.R_elder' (qr_ HOv1.out) (Kd.R_base hov4) hb); have n1_ := Aside0.mk (Kd.V_elder' (by (with_reducible repeat (first | apply Kd.V_alloc | apply Kd.V_drewN | apply Kd.V_drew)); exact HOv2.out) (Kd.R_base hov4) hb); have n2_ := Aside0.mk (Kd.R_elder' (qr_ HOv6.out) (Kd.R_base hov4) hb); have n3_ := Aside0.mk (Kd.R_elder' (qr_ HOv7.out) (Kd.R_base hov4) hb); have n4_ := Aside0.mk (Kd.R_lower (Kd.R_new' (Kd.R_new' (Kd.R_new' hov4 (Kd.R_lt (qr_ HOv1.out))) (Kd.R_lt (qr_ HOv6.out))) (Kd.R_lt (qr_ HOv7.out))) (below_size qh_)); have n5_ := Aside0.mk (Kd.C_below (by repeat (first | (with_reducible exact HRv1.out) | (with_reducible refine Kd.C_alloc ?_ _) | (with_reducible refine Kd.C_drewN ?_ _) | (with_reducible refine Kd.C_drew ?_) | exact HRv1.out)) hb); have n6_ := Aside0.mk (Kd.C_below (by repeat (first | (with_reducible exact HRv2.out) | (with_reducible refine Kd.C_alloc ?_ _) | (with_reducible refine Kd.C_drewN ?_ _) | (with_reducible refine Kd.C_drew ?_) | exact HRv2.out)) hb); have n7_ := Aside0.mk (below_step qh_ hb); clear HOv1; clear HOv2; clear HOv6; clear HOv7; clear HRv1; clear HRv2; clear HB; have HOv1 := n0_; have HOv2 := n1_; have HOv6 := n2_; have HOv7 := n3_; have HOv8 := n4_; have HRv1 := n5_; have HRv2 := n6_; have HB := n7_; clear n0_ n1_ n2_ n3_ n4_ n5_ n6_ n7_; clear hb hov4; obtain ⟨Aov5, cov5, eov5⟩ := Kd.R_slice HOv8.out; subst eov5) | ((with_reducible refine gate_callee (f := 19) rfl ?_); refine goesL_ (some 55) rfl rfl Try.func19 (by kernel_rfl) rfl #[.slice Aov4 y130.length cov4, .agg #[.int .i64 0, .int .i64 0, .int .i64 0, .int .i64 0, .slice Aov5 yv2.length cov5], .string (⟨#[120]⟩ : ByteArray)] rfl qm_ ?_; (with_reducible refine (index_Place.calls _ _ y130 0 0 0 0 _ _ yv2 (⟨#[120]⟩ : ByteArray) tv9 tv10 _ ?side1 ?side2 ?side3 ?side4 Av10.out).mono ?_); (case side1 => repeat (first | exact (Kd.R_reads' HOv6.out).2.2 | (with_reducible refine Kd.C_alloc ?_ _) | (with_reducible refine Kd.C_drewN ?_ _) | (with_reducible refine Kd.C_drew ?_))); (case side2 => exact (Kd.R_reads' HOv6.out).2.1); (case side3 => repeat (first | exact (Kd.R_reads' HOv8.out).2.2 | (with_reducible refine Kd.C_alloc ?_ _) | (with_reducible refine Kd.C_drewN ?_ _) | (with_reducible refine Kd.C_drew ?_))); (case side4 => exact (Kd.R_reads' HOv8.out).2.1); rintro e wv13 ⟨rfl, hb⟩; refine ⟨_, rfl, ?_⟩; have n0_ := Aside0.mk (Kd.R_below (qr_ HOv1.out) hb); have n1_ := Aside0.mk (Kd.V_below (by (with_reducible repeat (first | apply Kd.V_alloc | apply Kd.V_drewN | apply Kd.V_drew)); exact HOv2.out) hb); have n2_ := Aside0.mk (Kd.R_below (qr_ HOv6.out) hb); have n3_ := Aside0.mk (Kd.R_below (qr_ HOv7.out) hb); have n4_ := Aside0.mk (Kd.R_below (qr_ HOv8.out) hb); have n5_ := Aside0.mk (Kd.C_below (by repeat (first | (with_reducible exact HRv1.out) | (with_reducible refine Kd.C_alloc ?_ _) | (with_reducible refine Kd.C_drewN ?_ _) | (with_reducible refine Kd.C_drew ?_) | exact HRv1.out)) hb); have n6_ := Aside0.mk (Kd.C_below (by repeat (first | (with_reducible exact HRv2.out) | (with_reducible refine Kd.C_alloc ?_ _) | (with_reducible refine Kd.C_drewN ?_ _) | (with_reducible refine Kd.C_drew ?_) | exact HRv2.out)) hb); have n7_ := Aside0.mk (below_step qh_ hb); clear HOv1; clear HOv2; clear HOv6; clear HOv7; clear HOv8; clear HRv1; clear HRv2; clear HB; have HOv1 := n0_; have HOv2 := n1_; have HOv6 := n2_; have HOv7 := n3_; have HOv8 := n4_; have HRv1 := n5_; have HRv2 := n6_; have HB := n7_; clear n0_ n1_ n2_ n3_ n4_ n5_ n6_ n7_; (try clear hb); (try clear hbv1); (try clear hk); (try clear hi)))
   go_ret
   exact ⟨qe_, qh_⟩
 · rw [if_neg cv11] at H
   exact absurd H (by simp)
 · replace cv10 := Bool.eq_false_iff.mpr cv10
   subst cv10
   have Hv1 : (none) = some r := by rw [if_neg (show ¬ (false = true) by decide)] at H; exact H
   clear H
   have H := Hv1
   clear Hv1
   exact absurd H (by simp)
 · rw [if_neg cv9] at H
   exact absurd H (by simp)
 · rw [if_neg cv8] at H
   exact absurd H (by simp)
 · rw [if_neg cv7] at H
   exact absurd H (by simp)
 · rw [if_neg cv6] at H
   exact absurd H (by simp)
 · rw [if_neg cv5] at H
   exact absurd H (by simp)
 · rw [if_neg cv4] at H
   exact absurd H (by simp)
 · rw [if_neg cv3] at H
   exact absurd H (by simp)
 · rw [if_neg cv2] at H
   exact absurd H (by simp)
 · rw [if_neg cv1] at H
   exact absurd H (by simp)
 rw [if_neg c2] at H
 exact absurd H (by simp)
end
end Go.Proofs.Ytliaemoomhfcdaa.AW
