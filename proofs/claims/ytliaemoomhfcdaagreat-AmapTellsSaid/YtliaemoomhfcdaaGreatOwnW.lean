/- The walk of the iterator over a leaf's own pairs: against whatever body that keeps its word. -/
import Derived.Test.YtliaemoomhfcdaaGreatAppW
import Derived.Test.YtliaemoomhfcdaaGreatMF
namespace Go.Proofs.YtliaemoomhfcdaaGreat
open Go.RowKit Go.Shelf Go.Proofs.YtliaemoomhfcdaaGreatW.PrintWords
attribute [local go_sem] Oper.semAt_some
set_option maxHeartbeats 1000000
set_option maxRecDepth 100000
/-- A leaf's own pairs among its slots: up to the first key that is the next leaf's. -/
def ownOf (ne : Int) (high : ByteArray) (rc : Int → PRec × Int) : List Int → List KV
  | [] => []
  | s :: t => if ne ≠ 0 ∧ ltS (rc s).1.key high = false then [] else ((rc s).1.key, (rc s).1.val) :: ownOf ne high rc t
theorem keepP_below {n0 : Nat} {W W2 : World} (hn : n0 ≤ W.heap.size) (h : Below W.heap.size W W2) : KeepP n0 W W2 :=
  ⟨h.mono hn, fun k _ _ _ hk _ _ => (h.block k (Array.getElem?_eq_some_iff.1 hk).1).trans hk⟩
theorem KeepP.block {n0 : Nat} {W W2 : World} (h : KeepP n0 W W2) {k : Nat} {cs : Array Value} {t : TypeId} {r : Nat × Nat} (hk : W.heap[k]? = some (.cells cs t r)) (h1 : t ≠ 23) (h2 : t ≠ 45) : W2.heap[k]? = some (.cells cs t r) := h.2 k cs t r hk h1 h2
theorem keepP_own {n0 : Nat} {W W2 : World} {base n : Nat} {v : Value} {xs : List Value} (h : W.ownsRow base 3 1 v n xs) (hk : KeepP n0 W W2) : W2.ownsRow base 3 1 v n xs := by
  refine ⟨h.1, ?_⟩
  rcases h.2 with hn | ⟨g, cap, cur, hv, hb, hg, rest⟩
  · exact .inl hn
  · exact .inr ⟨g, cap, cur, hv, hb, hk.block hg (by decide) (by decide), rest⟩
theorem abide_below {β : Type} {B : Nat} {J : β → World → Prop} (hJ : AbidesFrom B J) {s : β} {W W2 : World} (h : J s W) (hb : Below W.heap.size W W2) : J s W2 :=
  hJ s W W2 none h ⟨hb.os, hb.tape, hb.output, hb.size, fun k hk _ => hb.block k hk⟩ (fun r e => by cases e)
theorem own1_in (n l n0 Bw Bb : Nat) (hn : 3 ≤ n) (A : Option Addr) (c : Nat) (ws : List Int) (b : Int) (lv tu ne lo er le : Int) (sl P : List Int) (high : ByteArray) (rc : Int → PRec × Int)
    (HN : Hid (∀ W, Kd.C (Kd.int .i64) W A ws.length ws → Calls Tryz.prog 47 #[.slice A ws.length c, .int .i64 b] W fun e w' => ∃ v, e = .returned (.tuple #[.agg #[.int .i64 lv, .int .i64 tu, .int .i64 ne, .int .i64 lo, v], .int .i64 er]) ∧ Kd.R (Kd.int .i64) 3 w' W.heap.size (fun _ => True) v sl ∧ Below W.heap.size W w'))
    (HL : Hid (∀ W, Kd.C (Kd.int .i64) W A ws.length ws → Calls Tryz.prog 48 #[.slice A ws.length c, .int .i64 ne] W fun e w' => e = .returned (.tuple #[.string high, .int .i64 le]) ∧ Below W.heap.size W w'))
    (HP : Hid (∀ A1 c1 W, Kd.C (Kd.int .i64) W A1 sl.length sl → Calls Tryz.prog 49 #[.slice A1 sl.length c1] W fun e w' => ∃ v, e = .returned v ∧ w'.ownsRow W.heap.size 3 1 v P.length (ints P) ∧ Below W.heap.size W w'))
    (HRC : Hid (∀ s W, Kd.C (Kd.int .i64) W A ws.length ws → Calls Tryz.prog 50 #[.slice A ws.length c, .int .i64 s] W (RecPost (rc s) W)))
    (J Jx : List KV → World → Prop) (W : World) (hW0 : n0 ≤ W.heap.size) (hJ : AbidesFrom W.heap.size J) (hP : P.length ≤ 1000)
    (hY : ∀ pre x W1, J pre W1 → pre.length < (ownOf ne high rc P).length → YieldAt Fence.wide (n - 1) Tryz.prog l (encP x) W1 fun e W' =>
      (e = .returned (.bool true) ∧ J (pre ++ [x]) W' ∧ KeepP n0 W1 W') ∨ (e = .returned (.bool false) ∧ Jx (pre ++ [x]) W'))
    (hBw : W.heap[Bw]? = some (.cells #[.slice A ws.length c] 22 (0, 0))) (hBb : W.heap[Bb]? = some (.cells #[.int .i64 b] 3 (0, 0))) (HC : Hid (∀ W2, KeepP n0 W W2 → Kd.C (Kd.int .i64) W2 A ws.length ws)) (h0 : J [] W) :
    CallsIn Fence.wide n Tryz.prog 46 #[.func (.yield l) #[] #[], .pointer (some ⟨Bw, 0, none⟩), .pointer (some ⟨Bb, 0, none⟩)] W fun e W' => (∃ v, e = .returned v) ∧
      ((∃ ys, ys = ownOf ne high rc P ∧ J ys W') ∨ (∃ pre, pre <+: ownOf ne high rc P ∧ Jx pre W')) := by
  refine callsIn_of_wp Tryz.func46 rfl trivial ?_ rfl
  simp only [Tryz.ntmps46, List.size_toArray, List.length_cons, List.length_nil, Nat.reduceAdd, Nat.reduceSub, Array.replicate_succ, Array.replicate_zero, List.push_toArray, List.append_toArray, List.nil_append, List.cons_append]
  have hu24 := Tryz.underlying43
  have hcw : W.cell? ⟨Bw, 0, none⟩ = some (.slice A ws.length c) := (cell_of_row _ _ _ _ _ _ hBw).trans rfl
  have hcb : W.cell? ⟨Bb, 0, none⟩ = some (.int .i64 b) := (cell_of_row _ _ _ _ _ _ hBb).trans rfl
  gi_wp2_with (first
    | (refine ⟨trivial, fun _ => by omega, ?_⟩; gi_at_call 47; refine (callsIn_wide.2 (HN.out _ (HC.out _ (keepP_refl _ _)))).mono ?_; rintro e w1 ⟨v, rfl, hR, hB1⟩; obtain ⟨A1, c1, rfl⟩ := Kd.R_slice hR; obtain ⟨_, hc1, hC1⟩ := Kd.R_reads' hR; have HC1 := Lib.hid (Kd.C_alloc hC1 (.cells #[.int .i64 lv, .int .i64 tu, .int .i64 ne, .int .i64 lo, .slice A1 sl.length c1] 43)); have HB1 := Lib.hid (hB1.alloc hB1.size (.cells #[.int .i64 lv, .int .i64 tu, .int .i64 ne, .int .i64 lo, .slice A1 sl.length c1] 43)); have HROW := Lib.hid (heap_alloc_new w1 (.cells #[.int .i64 lv, .int .i64 tu, .int .i64 ne, .int .i64 lo, .slice A1 sl.length c1] 43)); have hcw1 := (HB1.out.cell (World.block_lt_of_cell? W _ hcw)).trans hcw; have hr2 : World.cell? _ ⟨w1.heap.size, 2, none⟩ = some (.int .i64 ne) := (cell_of_row _ _ _ _ _ _ HROW.out).trans rfl; clear hR hB1 hC1 hcw hcb)
    | (refine ⟨trivial, fun _ => by omega, ?_⟩; gi_at_call 48; refine (callsIn_wide.2 (HL.out _ (HC.out _ (keepP_below hW0 HB1.out)))).mono ?_; rintro e w2 ⟨rfl, hB2⟩; have HB2 := Lib.hid (HB1.out.next hB2); have HROW2 := Lib.hid ((hB2.block _ (by simp)).trans HROW.out); have HC2 := Lib.hid (Kd.C_below HC1.out hB2); have hr4 : World.cell? _ ⟨w1.heap.size, 4, none⟩ = some (.slice A1 sl.length c1) := (cell_of_row _ _ _ _ _ _ HROW2.out).trans rfl; clear hB2 hcw1 hr2 HROW HC1 HB1)
    | (refine ⟨trivial, fun _ => by omega, ?_⟩; gi_at_call 49; refine (callsIn_wide.2 (HP.out _ _ _ HC2.out)).mono ?_; rintro e w5 ⟨v5, rfl, hown5, hB5⟩; obtain ⟨A5, c5, rfl, hc5, hri5⟩ := own_cap hown5; have HO5 := Lib.hid hown5; have HB5 := Lib.hid (HB2.out.next hB5); have HROW5 := Lib.hid ((hB5.block _ (by have := (Array.getElem?_eq_some_iff.1 HROW2.out).1; omega)).trans HROW2.out); clear hown5 hri5 hB5 hr4 HROW2 HC2 HB2))
  obtain ⟨wo, hwo⟩ : ∃ wo : World, wo = w5 := ⟨_, rfl⟩
  gi_loopw [29] (fun i wr => ∃ (k : Nat) (pre : List KV), k ≤ P.length ∧ i = .int .i64 k ∧ Hid (KeepP n0 w5 wr) ∧ Hid (J pre wr) ∧ Hid (pre ++ ownOf ne high rc (P.drop k) = ownOf ne high rc P)) (fun i _ => P.length - (intOf i).toNat)
  case atStart => exact ⟨0, [], by omega, rfl, Lib.hid (keepP_refl _ _), Lib.hid (abide_below hJ h0 HB5.out), Lib.hid rfl⟩
  case round =>
    obtain ⟨k, pre, hk, rfl, HK, HJ, HE⟩ := hrel
    by_cases hlt : k < P.length
    rotate_left
    · obtain rfl : k = P.length := by omega
      gi_wp2
      go_end0
      refine ⟨⟨_, rfl⟩, .inl ⟨pre, ?_, HJ.out⟩⟩
      have := HE.out
      rw [List.drop_length] at this
      simpa [ownOf] using this
    have HK0 := Lib.hid (keepP_t (keepP_below hW0 HB5.out) HK.out)
    obtain ⟨A9, c9, e9, _, hri9⟩ := own_cap (keepP_own HO5.out HK.out)
    injection e9 with e9 _ e10
    subst e9
    subst e10
    obtain ⟨ad5, s, hA5, _, hsk, hat5⟩ := hri9.at_ hlt
    subst hA5
    clear hri9
    have hrc := HRC.out s
    have hE := HE.out
    rw [List.drop_eq_getElem_cons hlt, show P[k] = s from (List.getElem?_eq_some_iff.1 hsk).2] at hE
    simp only [ownOf] at hE
    generalize rc s = rr at hrc hE
    obtain ⟨⟨kind, key, val, ch⟩, er2⟩ := rr
    simp only at hrc hE
    have HRC2 := Lib.hid hrc
    have HW := Lib.hid (HK0.out.block hBw (by decide) (by decide))
    have HX := Lib.hid (HK.out.block HROW5.out (by decide) (by decide))
    have hcw9 : wr.cell? ⟨Bw, 0, none⟩ = some (.slice A ws.length c) := (cell_of_row _ _ _ _ _ _ HW.out).trans rfl
    have hn0 : n0 ≤ wr.heap.size := Nat.le_trans hW0 HK0.out.1.size
    clear hsk hrc
    have hstore : ∀ w6 : World, Below wr.heap.size wr w6 → (w6.heap[w1.heap.size]? = some (.cells #[.int .i64 lv, .int .i64 tu, .int .i64 ne, .int .i64 lo, .slice A1 sl.length c1] 43 (0, 0))) := fun w6 h6 => (h6.block _ (Array.getElem?_eq_some_iff.1 HX.out).1).trans HX.out
    have HS := Lib.hid hstore
    clear hstore
    by_cases hst : ne ≠ 0 ∧ ltS key high = false
    · rw [if_pos hst] at hE
      obtain ⟨hne, hge⟩ := hst
      have e1 : (ne == 0) = false := by simpa using hne
      have e3 : Op.bytesLess key.toList high.toList = false := hge
      have HE2 := Lib.hid hE
      clear hge hE
      gi_wp2_with (first
        | (refine ⟨trivial, fun _ => by omega, ?_⟩; gi_at_call 50; refine (callsIn_wide.2 (HRC2.out _ (HC.out _ HK0.out))).mono ?_; rintro e w6 ⟨rfl, hB6⟩; have HB6 := Lib.hid (hB6.alloc hB6.size (.cells #[.int .i64 kind, .string key, .string val, .int .i64 ch] 40)); have HX6 := Lib.hid (HS.out _ HB6.out); have HR6 := Lib.hid (heap_alloc_new w6 (.cells #[.int .i64 kind, .string key, .string val, .int .i64 ch] 40)); have hx2 : World.cell? _ ⟨w1.heap.size, 2, none⟩ = some (.int .i64 ne) := (cell_of_row _ _ _ _ _ _ HX6.out).trans rfl; have hx5 : World.cell? _ ⟨w6.heap.size, 1, none⟩ = some (.string key) := (cell_of_row _ _ _ _ _ _ HR6.out).trans rfl; clear hB6))
      refine ⟨fun _ h => (by cases h), ?_⟩
      gi_wp2
      refine bodyPost_ret (results_none rfl _ _ _) rfl ?_
      refine ⟨⟨_, rfl⟩, .inl ⟨pre, ?_, abide_below hJ HJ.out HB6.out⟩⟩
      have := HE2.out
      simpa using this
    rw [if_neg hst] at hE
    have hlen : pre.length < (ownOf ne high rc P).length := by rw [← hE]; simp
    have HE2 := Lib.hid hE
    have HY := Lib.hid (fun W1 hJ1 => hY pre (key, val) W1 hJ1 hlen)
    have hcase : (ne = 0) ∨ (¬ ne = 0 ∧ ltS key high = true) := by
      by_cases h : ne = 0
      · exact .inl h
      · refine .inr ⟨h, ?_⟩
        cases hk : ltS key high with
        | true => rfl
        | false => exact absurd ⟨h, hk⟩ hst
    have HCASE := Lib.hid hcase
    clear hcase hst hE hlen
    rcases HCASE.out with e1 | ⟨e1, e4⟩
    · clear HCASE
      subst e1
      gi_wp2_with (first
        | (refine ⟨trivial, fun _ => by omega, ?_⟩; gi_at_call 50; refine (callsIn_wide.2 (HRC2.out _ (HC.out _ HK0.out))).mono ?_; rintro e w6 ⟨rfl, hB6⟩; have HB6 := Lib.hid (hB6.alloc hB6.size (.cells #[.int .i64 kind, .string key, .string val, .int .i64 ch] 40)); have HX6 := Lib.hid (HS.out _ HB6.out); have HR6 := Lib.hid (heap_alloc_new w6 (.cells #[.int .i64 kind, .string key, .string val, .int .i64 ch] 40)); have hx2 : World.cell? _ ⟨w1.heap.size, 2, none⟩ = some (.int .i64 0) := (cell_of_row _ _ _ _ _ _ HX6.out).trans rfl; have hx5 : World.cell? _ ⟨w6.heap.size, 1, none⟩ = some (.string key) := (cell_of_row _ _ _ _ _ _ HR6.out).trans rfl; have hx6 : World.cell? _ ⟨w6.heap.size, 2, none⟩ = some (.string val) := (cell_of_row _ _ _ _ _ _ HR6.out).trans rfl; clear hB6; obtain ⟨fn, tmps, assign, body, hy, hRd⟩ := HY.out _ (abide_below hJ HJ.out HB6.out); dsimp only [encP, pairV] at hy))
      refine ⟨fun _ => by omega, hRd.mono ?_⟩
      rintro e W7 (⟨rfl, hJ3, hk3⟩ | ⟨rfl, hJx3⟩)
      · gi_wp2
        go_roundw
        case rel => exact ⟨k + 1, pre ++ [(key, val)], by omega, by go_num, Lib.hid (keepP_t (keepP_t HK.out (keepP_below hn0 HB6.out)) hk3), Lib.hid hJ3, Lib.hid (by rw [List.append_assoc]; exact HE2.out)⟩
        case measure => simp [intOf]; omega
      · gi_wp2
        refine bodyPost_ret (results_none rfl _ _ _) rfl ?_
        exact ⟨⟨_, rfl⟩, .inr ⟨pre ++ [(key, val)], ⟨ownOf 0 high rc (P.drop (k + 1)), by rw [List.append_assoc]; exact HE2.out⟩, hJx3⟩⟩
    · clear HCASE
      have e3 : Op.bytesLess key.toList high.toList = true := e4
      gi_wp2_with (first
        | (refine ⟨trivial, fun _ => by omega, ?_⟩; gi_at_call 50; refine (callsIn_wide.2 (HRC2.out _ (HC.out _ HK0.out))).mono ?_; rintro e w6 ⟨rfl, hB6⟩; have HB6 := Lib.hid (hB6.alloc hB6.size (.cells #[.int .i64 kind, .string key, .string val, .int .i64 ch] 40)); have HX6 := Lib.hid (HS.out _ HB6.out); have HR6 := Lib.hid (heap_alloc_new w6 (.cells #[.int .i64 kind, .string key, .string val, .int .i64 ch] 40)); have hx2 : World.cell? _ ⟨w1.heap.size, 2, none⟩ = some (.int .i64 ne) := (cell_of_row _ _ _ _ _ _ HX6.out).trans rfl; have hx5 : World.cell? _ ⟨w6.heap.size, 1, none⟩ = some (.string key) := (cell_of_row _ _ _ _ _ _ HR6.out).trans rfl; have hx6 : World.cell? _ ⟨w6.heap.size, 2, none⟩ = some (.string val) := (cell_of_row _ _ _ _ _ _ HR6.out).trans rfl; clear hB6; obtain ⟨fn, tmps, assign, body, hy, hRd⟩ := HY.out _ (abide_below hJ HJ.out HB6.out); dsimp only [encP, pairV] at hy))
      refine ⟨fun _ => by omega, hRd.mono ?_⟩
      rintro e W7 (⟨rfl, hJ3, hk3⟩ | ⟨rfl, hJx3⟩)
      · gi_wp2
        go_roundw
        case rel => exact ⟨k + 1, pre ++ [(key, val)], by omega, by go_num, Lib.hid (keepP_t (keepP_t HK.out (keepP_below hn0 HB6.out)) hk3), Lib.hid hJ3, Lib.hid (by rw [List.append_assoc]; exact HE2.out)⟩
        case measure => simp [intOf]; omega
      · gi_wp2
        refine bodyPost_ret (results_none rfl _ _ _) rfl ?_
        exact ⟨⟨_, rfl⟩, .inr ⟨pre ++ [(key, val)], ⟨ownOf ne high rc (P.drop (k + 1)), by rw [List.append_assoc]; exact HE2.out⟩, hJx3⟩⟩
end Go.Proofs.YtliaemoomhfcdaaGreat
