/- Pairs in memory: a copy, a clearing, an append of empty ones, and what a row of the call's own holds behind them. -/
import Derived.Test.YtliaemoomhfcdaaGreatGivenPK
import Derived.Laws.CopyRow
import Derived.Lib.Overlaps
import Derived.Lib.AppendZeros
namespace Go.Proofs.YtliaemoomhfcdaaGreat
open Go.RowKit Go.Proofs.YtliaemoomhfcdaaGreatW.PrintWords
set_option linter.unusedVariables false
set_option linter.unusedSimpArgs false
def zP : Value := .agg #[.string ⟨#[]⟩, .string ⟨#[]⟩]
def zs (n : Nat) : List Value := (Builtin.zeroCells zP.cells n).toList
theorem zs_len (n : Nat) : (zs n).length = n * 2 := by
  unfold zs
  rw [Array.length_toList, size_zeroCells]
  rfl
theorem zs_one (n : Nat) : ∀ u ∈ zs n, u.oneCell' = true := by
  intro u hu
  unfold zs Builtin.zeroCells at hu
  simp [zP, Value.cells] at hu
  obtain ⟨i, hi, rfl⟩ := hu
  rcases Nat.mod_two_eq_zero_or_one i with h | h <;> simp [h, Value.oneCell']
theorem run_copy_row2 {P : Program} (w : World) (dT sT ty elem : TypeId) (g o dLen dCap : Nat) (a : Addr) (sLen sCap : Nat) (cur : Array Value) (t : TypeId) (cs : List Value)
    (hu : P.underlying dT = some (.slice elem)) (hs : (P.info? elem).map (·.size) = some 2)
    (hg : w.heap[g]? = some (.cells cur t (0, 0))) (hn : cs.length = Nat.min sLen dLen * 2)
    (hsrc : ∀ j v, cs[j]? = some v → w.cell? (a.add j) = some v) (hfit : o + cs.length ≤ cur.size) (h1 : ∀ v ∈ cs, v.oneCell' = true) :
    (Builtin.copy_ #[dT, sT] ty #[.slice (some ⟨g, o, none⟩) dLen dCap, .slice (some a) sLen sCap]).run P w =
      .ok (goInt (Nat.min sLen dLen)) (w.setRow g (cur.toList.take o ++ cs ++ cur.toList.drop (o + cs.length)).toArray) := by
  have hl := run_loadCells_list (P := P) w a cs hsrc
  have hst := run_storeCells_at P g o t cs 0 cur w hg (by simpa using hfit) h1
  cases hq : P.info? elem with
  | none => simp [hq] at hs
  | some i =>
    have hi : i.size = 2 := by simpa [hq] using hs
    simp [Builtin.copy_, run_underlying hu, Builtin.lenOf, Builtin.firstCells, sizeOf, typeInfo, hq, hi, ← hn, hl, hst]
theorem run_clear_row2 {P : Program} (w : World) (t e ty : TypeId) (ht : P.underlying t = some (.slice e)) (hv : ∀ w, (zeroValue e).run P w = .ok zP w) (g o n c : Nat) (cur : Array Value) (te : TypeId) (hn : 0 < n)
    (hg : w.heap[g]? = some (.cells cur te (0, 0))) (hfit : o + n * 2 ≤ cur.size) :
    (Builtin.clear_ #[t] ty #[.slice (some ⟨g, o, none⟩) n c]).run P w = .ok (.tuple #[]) (w.setRow g (cur.toList.take o ++ zs n ++ cur.toList.drop (o + n * 2)).toArray) := by
  have hst := run_storeCells_at P g o te (zs n) 0 cur w hg (by rw [zs_len]; simpa using hfit) (zs_one n)
  rw [zs_len] at hst
  simp only [Nat.add_zero] at hst
  obtain ⟨m, rfl⟩ : ∃ m, n = m + 1 := ⟨n - 1, by omega⟩
  simp [Builtin.clear_, run_underlying ht, hv]
  rw [show (Builtin.zeroCells zP.cells (m + 1)).toList = zs (m + 1) from rfl, hst]
  simp
theorem run_append_zeros2 {P : Program} (w : World) (t tn ty e : TypeId) (i : TypeInfo) (k kn : IntKind) (ht : P.underlying t = some (.slice e)) (htn : P.underlying tn = some (.int kn)) (hi : P.info? e = some i) (hz : i.zero = some zP) (hs : i.size = 2) (hb : i.bytes = 32)
    (ad : Addr) (sLen sCap n : Nat) (olds : List Value) (hol : olds.length = sLen * 2) (hold : ∀ j u, olds[j]? = some u → w.cell? (ad.add j) = some u) (h0 : 0 < n) (hg : sCap < sLen + n) (h63 : sLen + n ≤ 1000000000) :
    (Builtin.append_ #[t, tn] ty #[.slice (some ad) sLen sCap, .int k n]).run P w =
      .ok (.slice (some ⟨w.heap.size, 0, none⟩) (sLen + n) (grownCap w (sLen + n) sCap e))
        (w.drew.alloc (.cells (olds.toArray ++ Builtin.zeroCells zP.cells n ++ Builtin.zeroCells zP.cells (grownCap w (sLen + n) sCap e - (sLen + n))) e)) := by
  have hn : n ≠ 0 := by omega
  have hw : IntKind.i64.wrap (n : Int) = n := by rw [IntKind.wrap_i64]; omega
  have h1 : ¬ (sLen + n ≤ sCap) := by omega
  have h63' : ¬ (9223372036854775807 < ((sLen : Int) + (n : Int))) := by omega
  have hfit := growslice_fits (need := sLen + n) (old := sCap) (bytes := 32) hg (by omega)
  have h48' : ¬ (281474976710656 < Builtin.nextslicecap (sLen + n) sCap * 32) := by omega
  have h48i : ¬ (281474976710656 < (n : Int) * 32) := by omega
  have hneg : ¬ ((n : Int) < 0) := by omega
  have hfo : (loadCells ad (sLen * 2)).run P w.drew = .ok olds.toArray w.drew := by
    rw [← hol]; exact run_loadCells_list (P := P) w.drew ad olds hold
  simp [Builtin.append_, run_underlying ht, run_underlying htn, sizeOf, typeInfo, zeroValue, hi, hz, hs, hb, asInt, asIntOf, hw, hn, hneg, h1, h63', h48', h48i, Question.forced, Builtin.firstCells, hfo, newRow, grownCap]
  intro h; omega
theorem row2_get {W : World} {n0 g n cap : Nat} {xs : List Value} (h : W.ownsRow n0 45 2 (.slice (some ⟨g, 0, none⟩) n cap) n xs) :
    ∃ cur, W.heap[g]? = some (.cells cur 45 (0, 0)) ∧ n0 ≤ g ∧ n ≤ cap ∧ cap ≤ maxLen ∧ cur.size = cap * 2 ∧ cur.toList.take (n * 2) = xs := by
  rcases h.2 with ⟨h1, _⟩ | ⟨g', cap', cur, hv, hb, hg, h1, h2, h3, h4⟩
  · cases h1
  · injection hv with e1 e2 e3
    injection e1 with e1
    injection e1 with e1
    subst e1; subst e3
    exact ⟨cur, hg, hb, h1, h2, h3, h4⟩
theorem row2_mk {W : World} {n0 g n cap : Nat} {cur : Array Value} {xs : List Value} (hg : W.heap[g]? = some (.cells cur 45 (0, 0))) (hb : n0 ≤ g) (h1 : n ≤ cap) (h2 : cap ≤ maxLen) (h3 : cur.size = cap * 2) (h4 : cur.toList.take (n * 2) = xs) :
    W.ownsRow n0 45 2 (.slice (some ⟨g, 0, none⟩) n cap) n xs :=
  ⟨by rw [← h4, List.length_take, Array.length_toList]; omega, .inr ⟨g, cap, cur, rfl, hb, hg, h1, h2, h3, h4⟩⟩
theorem flatP_len : ∀ l : List KV, (flatP l).length = l.length * 2
  | [] => rfl
  | x :: t => by simp only [flatP, List.length_cons, flatP_len t]; omega
theorem flatP_one : ∀ (l : List KV), ∀ u ∈ flatP l, u.oneCell' = true
  | [], u, h => by cases h
  | x :: t, u, h => by
    simp only [flatP] at h
    rcases List.mem_cons.1 h with rfl | h
    · rfl
    rcases List.mem_cons.1 h with rfl | h
    · rfl
    exact flatP_one t u h
theorem flatP_take : ∀ (l : List KV) (i : Nat), (flatP l).take (i * 2) = flatP (l.take i)
  | [], i => by simp [flatP]
  | x :: t, 0 => by simp [flatP]
  | x :: t, i + 1 => by
    rw [show (i + 1) * 2 = i * 2 + 1 + 1 from by omega]
    simp only [flatP, List.take_succ_cons, flatP_take t i]
theorem flatP_drop : ∀ (l : List KV) (i : Nat), (flatP l).drop (i * 2) = flatP (l.drop i)
  | [], i => by simp [flatP]
  | x :: t, 0 => by simp [flatP]
  | x :: t, i + 1 => by
    rw [show (i + 1) * 2 = i * 2 + 1 + 1 from by omega]
    simp only [flatP, List.drop_succ_cons, flatP_drop t i]
theorem flatP_set : ∀ (l : List KV) (i : Nat) (x : KV), flatP (l.set i x) = ((flatP l).set (i * 2) (.string x.1)).set (i * 2 + 1) (.string x.2)
  | [], i, x => by simp [flatP]
  | y :: t, 0, x => by simp [flatP]
  | y :: t, i + 1, x => by
    rw [show (i + 1) * 2 = i * 2 + 1 + 1 from by omega]
    simp only [flatP, List.set_cons_succ, flatP_set t i x]
theorem C_own2 {w : World} {n0 cap g : Nat} {l : List KV} (h : w.ownsRow n0 45 2 (.slice (some ⟨g, 0, none⟩) l.length cap) l.length (flatP l)) : Kd.C kp w (some ⟨g, 0, none⟩) l.length l := by
  have h2 : w.ownsRow n0 45 2 (.slice (some ⟨g, 0, none⟩) l.length cap) l.length (flatP (l.map id)) := by rw [List.map_id]; exact h
  obtain ⟨A, c, he, _, hC⟩ := Kd.R_reads (R_pairs id h2)
  injection he with e1
  subst e1
  have := C_pairs id hC
  rwa [List.map_id] at this
/-- A pair is written in its place in a row of the call's own. -/
theorem row2_set {W : World} {n0 g cap : Nat} {L : List KV} {i : Nat} (x : KV) (h : W.ownsRow n0 45 2 (.slice (some ⟨g, 0, none⟩) L.length cap) L.length (flatP L)) (hi : i < L.length) :
    ((W.setCell ⟨g, i * 2, none⟩ (.string x.1)).setCell ⟨g, i * 2 + 1, none⟩ (.string x.2)).ownsRow n0 45 2 (.slice (some ⟨g, 0, none⟩) L.length cap) L.length (flatP (L.set i x)) ∧ Below n0 W ((W.setCell ⟨g, i * 2, none⟩ (.string x.1)).setCell ⟨g, i * 2 + 1, none⟩ (.string x.2)) := by
  obtain ⟨cur, hg, hb, h1, h2, h3, h4⟩ := row2_get h
  have hg2 := heap_setCell_same _ g (i * 2 + 1) _ 45 (.string x.2) (heap_setCell_same W g (i * 2) cur 45 (.string x.1) hg)
  refine ⟨row2_mk hg2 hb h1 h2 (by simp [h3]) ?_, ((Below.refl _ _).setCell (p := ⟨g, i * 2, none⟩) hb _).setCell (p := ⟨g, i * 2 + 1, none⟩) hb _⟩
  rw [flatP_set, ← h4]
  simp only [Array.toList_setIfInBounds]
  rw [List.take_set, List.take_set]
theorem row2_cells {W : World} {n0 g cap : Nat} {L : List KV} {i : Nat} (h : W.ownsRow n0 45 2 (.slice (some ⟨g, 0, none⟩) L.length cap) L.length (flatP L)) (hi : i < L.length) :
    ∃ x, L[i]? = some x ∧ W.cell? ⟨g, i * 2, none⟩ = some (.string x.1) ∧ W.cell? ⟨g, i * 2 + 1, none⟩ = some (.string x.2) ∧ W.frozen? ⟨g, i * 2, none⟩ = false ∧ W.frozen? ⟨g, i * 2 + 1, none⟩ = false := by
  obtain ⟨ad, x, hA, hx, h0, h1⟩ := pairs_at (C_own2 h) hi rfl
  injection hA with hA
  subst hA
  obtain ⟨cur, hg, _⟩ := row2_get h
  rw [Addr.add_lit, Nat.zero_add] at h0 h1
  exact ⟨x, hx, h0, h1, by simp [World.frozen?, hg], by simp [World.frozen?, hg]⟩
end Go.Proofs.YtliaemoomhfcdaaGreat
