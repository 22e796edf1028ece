/- The walks of the laws SumMore, SumHalves, SumTurns, SumParts of the sum functions. -/
import Derived.Test.YtggbmcmajdbkhaaWalks
import Derived.Test.YtggbmcmajdbkhaaOwn
import Derived.Deep.RegionHeld3
namespace Go.Proofs.Ytggbmcmajdbkhaa
open Go.RowKit
open Crc
set_option maxHeartbeats 400000
set_option maxRecDepth 100000

theorem int_info : (Try.prog.info? 3).map (fun i => (i.zero, i.size, i.bytes)) = some (some (.int .i64 0), 1, 8) := by kernel_rfl

abbrev ints (l : List Int) : List Value := l.map (Value.int .i64)
theorem ints_one (l : List Int) : ∀ u ∈ ints l, u.oneCell' = true := by
  intro u hu
  obtain ⟨x, _, rfl⟩ := List.mem_map.1 hu
  rfl
theorem Reads.ints {w : World} {A : Option Addr} {n : Nat} {l : List Int} (h : Reads w w.heap.size 1 A n (ints l)) : ReadsInts w A n l := by
  obtain ⟨h1, h2⟩ := h
  refine ⟨by simpa using h1, fun hn => ?_⟩
  obtain ⟨ad, e, hb, hc⟩ := h2 hn
  exact ⟨ad, e, hb, fun j x hj => hc j _ (by simp [hj])⟩

theorem owns_empty (w : World) (e : TypeId) (size : Nat) : (w.alloc (.cells #[] e)).ownsRow w.heap.size e size (.slice (some ⟨w.heap.size, 0, none⟩) 0 0) 0 [] := by
  refine ⟨by simp, .inr ⟨w.heap.size, 0, #[], rfl, Nat.le_refl _, heap_alloc_new _ _, Nat.le_refl _, by simp [maxLen], by simp, by simp⟩⟩

theorem own_ge {w : World} {base e size n : Nat} {v : Value} {xs : List Value} (h : w.ownsRow base e size v n xs) {k : Nat} (hk : v.ownBlock = some k) : base ≤ k := by
  rcases h.2 with ⟨rfl, _⟩ | ⟨g, cap, cur, rfl, hg, _⟩
  · simp [Value.ownBlock] at hk
  · simp [Value.ownBlock] at hk
    omega

theorem own_form {w : World} {base e n : Nat} {v : Value} {xs : List Value} (h : w.ownsRow base e 1 v n xs) : ∃ A c, v = .slice A n c ∧ Reads w w.heap.size 1 A n xs := by
  rcases h.2 with ⟨rfl, rfl⟩ | ⟨g, cap, cur, rfl, _⟩
  · exact ⟨none, 0, rfl, Reads.of_own h⟩
  · exact ⟨_, cap, rfl, Reads.of_own h⟩

theorem sumOf_beq (xs ys : List Int) : (sumOf xs == sumOf ys) = decide (ofWords xs = ofWords ys) := by
  have : sumOf xs = sumOf ys ↔ ofWords xs = ofWords ys := by
    unfold sumOf
    constructor
    · intro h; exact BitVec.eq_of_toNat_eq (by omega)
    · intro h; rw [h]
  by_cases h : ofWords xs = ofWords ys
  · rw [this.2 h]; simp [h]
  · rw [beq_eq_false_iff_ne.2 (fun e => h (this.1 e))]; simp [h]

theorem ofWords_append (a b : List Int) : ofWords (a ++ b) = all (ofWords a) (b.map (BitVec.ofInt 64)) := by
  unfold ofWords
  rw [List.map_append, all_append]

theorem more_eq (a b m : List Int) : (ofWords (a ++ m) = ofWords (b ++ m)) ↔ (ofWords a = ofWords b) := by
  rw [ofWords_append, ofWords_append]
  exact ⟨all_inj, fun h => by rw [h]⟩

theorem ints_append (a b : List Int) : ints a ++ ints b = ints (a ++ b) := by simp

theorem _root_.Go.RowKit.Below.next' {w a b c : World} (h : Below w.heap.size w a) (k : Below a.heap.size a b) (l : Below b.heap.size b c) : Below w.heap.size w c := (h.next k).next l

theorem sumMore_walk (A B M : Option Addr) (na nb nm ca cb cm : Nat) (xa xb xm : List Int) (w : World)
    (ha : Reads w w.heap.size 1 A na (ints xa)) (hb : Reads w w.heap.size 1 B nb (ints xb)) (hm : Reads w w.heap.size 1 M nm (ints xm)) :
    Calls Try.prog 6 #[.slice A na ca, .slice B nb cb, .slice M nm cm] w fun e w' => e = .returned (.bool true) ∧ Below w.heap.size w w' := by
  by_cases hbig : 100 < na ∨ 100 < nb ∨ 100 < nm
  · rcases (show 100 < na ∨ na ≤ 100 ∧ 100 < nb ∨ na ≤ 100 ∧ nb ≤ 100 ∧ 100 < nm by omega) with h | ⟨h0, h⟩ | ⟨h0, h1, h⟩
    all_goals
      clear hbig
      go_enter Try.func6, Try.ntmps6
      go_wp2_with fail
      refine (awake_any _).mono ?_
      rintro e w1 ⟨rfl, hB1⟩
      go_wp2
      go_ret
      exact ⟨rfl, hB1⟩
  · have h1 : na ≤ 100 := by omega
    have h2 : nb ≤ 100 := by omega
    have h3 : nm ≤ 100 := by omega
    have d1 : decide (100 < (na : Int)) = false := by simp; omega
    have d2 : decide (100 < (nb : Int)) = false := by simp; omega
    have d3 : decide (100 < (nm : Int)) = false := by simp; omega
    clear hbig
    have HA := Lib.hid ha
    have HB := Lib.hid hb
    have HM := Lib.hid hm
    clear ha hb hm
    obtain ⟨i0, hi0, hz0, hz1, hz2⟩ := info_parts int_info
    go_enter Try.func6, Try.ntmps6
    go_wp2_with fail
    refine (awake_any _).mono ?_
    rintro e w1 ⟨rfl, hB1⟩
    go_wp2_with (first
      | (at_builtin
         refine wpList_append_any _ rfl (.tmp 25) (.tmp 26) _ rfl w1.heap.size 3 i0 _ 1 8 Try.underlying22 hi0 hz0 hz1 hz2 rfl (by omega) _ 0 [] rfl (owns_empty w1 3 1) w.heap.size A na ca (ints xa) rfl (HA.out.below (hB1.alloc hB1.size _)) (ints_one _) (by simp only [maxLen]; omega) (by omega) (by simp) ?_
         intro v2 w2 hown2 hg2 hat2
         have hB2 : Below w.heap.size w w2 := (hB1.alloc hB1.size _).grown hg2 (hB1.alloc hB1.size _).size (fun k hk => Nat.le_trans hB1.size (own_ge (owns_empty w1 3 1) hk))
         have hs2 : w1.heap.size ≤ w2.heap.size := by have := hg2.size; simp at this; omega
         rw [List.nil_append, Nat.zero_add] at hown2
         have HO2 := Lib.hid hown2
         clear hown2 hat2 hg2)
      | (at_builtin
         refine wpList_append_any _ rfl (.tmp 27) (.tmp 28) _ rfl w1.heap.size 3 i0 _ 1 8 Try.underlying22 hi0 hz0 hz1 hz2 rfl (by omega) v2 na (ints xa) rfl HO2.out w.heap.size M nm cm (ints xm) rfl (HM.out.below hB2) (ints_one _) (by simp only [maxLen]; omega) (by omega) hs2 ?_
         intro v3 w3 hown3 hg3 hat3
         have hB3 : Below w.heap.size w w3 := hB2.grown hg3 hB2.size (fun k hk => Nat.le_trans hB1.size (own_ge HO2.out hk))
         have hs3 : w1.heap.size ≤ w3.heap.size := Nat.le_trans hs2 hg3.size
         rw [ints_append] at hown3
         have HO3 := Lib.hid hown3
         clear hown3 hat3 hg3)
      | (at_builtin
         refine wpList_append_any _ rfl (.tmp 30) (.tmp 31) _ rfl w3.heap.size 3 i0 _ 1 8 Try.underlying22 hi0 hz0 hz1 hz2 rfl (by omega) _ 0 [] rfl (owns_empty w3 3 1) w.heap.size B nb cb (ints xb) rfl (HB.out.below (hB3.alloc hB3.size _)) (ints_one _) (by simp only [maxLen]; omega) (by omega) (by simp) ?_
         intro v4 w4 hown4 hg4 hat4
         have hB4 : Below w3.heap.size w3 w4 := ((Below.refl _ _).alloc (Nat.le_refl _) _).grown hg4 ((Below.refl _ _).alloc (Nat.le_refl _) _).size (fun k hk => own_ge (owns_empty w3 3 1) hk)
         have hs4 : w3.heap.size ≤ w4.heap.size := by have := hg4.size; simp at this; omega
         rw [List.nil_append, Nat.zero_add] at hown4
         have HO4 := Lib.hid hown4
         clear hown4 hat4 hg4)
      | (at_builtin
         refine wpList_append_any _ rfl (.tmp 32) (.tmp 33) _ rfl w3.heap.size 3 i0 _ 1 8 Try.underlying22 hi0 hz0 hz1 hz2 rfl (by omega) v4 nb (ints xb) rfl HO4.out w.heap.size M nm cm (ints xm) rfl (HM.out.below (hB3.next hB4)) (ints_one _) (by simp only [maxLen]; omega) (by omega) hs4 ?_
         intro v5 w5 hown5 hg5 hat5
         have hB5 : Below w3.heap.size w3 w5 := hB4.grown hg5 hB4.size (fun k hk => own_ge HO4.out hk)
         rw [ints_append] at hown5
         have HO5 := Lib.hid hown5
         clear hown5 hat5 hg5))
    obtain ⟨A3, c3, rfl, hr3⟩ := own_form HO3.out
    obtain ⟨A5, c5, rfl, hr5⟩ := own_form HO5.out
    have HR3 := Lib.hid hr3
    have HR5 := Lib.hid hr5
    have hB35 := hB3.next hB5
    clear hr3 hr5 HO2 HO3 HO4 HO5
    have HQ1 := Lib.hid (sumOf_beq xa xb)
    have HQ2 := Lib.hid (sumOf_beq (xa ++ xm) (xb ++ xm))
    have HQ3 := Lib.hid (more_eq xa xb xm)
    refine (of_call A na ca xa _ (HA.out.ints.below hB35) (by omega)).mono ?_
    rintro e w6 ⟨rfl, hB6⟩
    go_wp2_with fail
    refine (of_call B nb cb xb _ (HB.out.ints.below (hB35.next hB6)) (by omega)).mono ?_
    rintro e w7 ⟨rfl, hB7⟩
    have hq1 := HQ1.out
    go_wp2_with fail
    refine (of_call A3 _ c3 (xa ++ xm) _ (HR3.out.ints.below ((hB5.next hB6).next hB7)) (by omega)).mono ?_
    rintro e w8 ⟨rfl, hB8⟩
    go_wp2_with fail
    refine (of_call A5 _ c5 (xb ++ xm) _ (HR5.out.ints.below (hB6.next' hB7 hB8)) (by omega)).mono ?_
    rintro e w9 ⟨rfl, hB9⟩
    have hq2 := HQ2.out
    have hq3 : decide (ofWords (xa ++ xm) = ofWords (xb ++ xm)) = decide (ofWords xa = ofWords xb) := by
      exact decide_eq_decide.2 HQ3.out
    go_wp2
    go_ret
    exact ⟨rfl, (((hB35.next hB6).next hB7).next hB8).next hB9⟩

/-- What the frame tells of a slice of ints that came in, as a list of its elements. -/
theorem reads_of_row {w : World} {a : Option Addr} {len cap : Nat} {zs : List Int}
    (h : (a = none ∧ len = 0 ∧ cap = 0 ∧ zs = []) ∨ ∃ x, a = some x ∧ len ≤ cap ∧ cap ≤ maxLen ∧ zs.length = cap ∧ (∀ i, i < zs.length → w.cell? (x.add i) = some (.int .i64 (zs.getD i 0))) ∧ ∀ n ∈ zs, (Lit.int .i64 n).wf = true) :
    Reads w w.heap.size 1 a len (ints (zs.take len)) := by
  rcases h with ⟨rfl, rfl, _, rfl⟩ | ⟨x, rfl, hl, hm, hz, hc, hw⟩
  · exact Reads.none_
  · refine ⟨by simp; omega, fun hn => ⟨x, rfl, ?_, fun j u hj => ?_⟩⟩
    · have := block_lt_of_cell (hc 0 (by omega))
      rwa [block_of_add] at this
    · simp only [ints, List.getElem?_map, List.getElem?_take] at hj
      by_cases hjl : j < len
      · simp only [hjl, if_true] at hj
        have h1 := hc j (by omega)
        have hjz : j < zs.length := by omega
        rw [h1]
        simp [List.getElem?_eq_getElem hjz] at hj
        simp [hjz, hj]
      · simp [hjl] at hj

theorem len_of_row {w : World} {a : Option Addr} {len cap : Nat} {zs : List Int}
    (h : (a = none ∧ len = 0 ∧ cap = 0 ∧ zs = []) ∨ ∃ x, a = some x ∧ len ≤ cap ∧ cap ≤ maxLen ∧ zs.length = cap ∧ (∀ i, i < zs.length → w.cell? (x.add i) = some (.int .i64 (zs.getD i 0))) ∧ ∀ n ∈ zs, (Lit.int .i64 n).wf = true) :
    (∀ n ∈ zs.take len, (Lit.int .i64 n).wf = true) ∧ len ≤ 9223372036854775807 := by
  rcases h with ⟨rfl, rfl, _, rfl⟩ | ⟨x, rfl, hl, hm, hz, hc, hw⟩
  · simp
  · exact ⟨fun n hn => hw n (List.mem_of_mem_take hn), by unfold maxLen at hm; omega⟩
end Go.Proofs.Ytggbmcmajdbkhaa
