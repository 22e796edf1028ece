/- The walk of the law SumHalves of the sum functions. -/
import Derived.Test.YtggbmcmajdbkhaaMore
namespace Go.Proofs.Ytggbmcmajdbkhaa
open Go.RowKit
open Crc
set_option maxHeartbeats 400000
set_option maxRecDepth 100000

theorem own_open {w : World} {base n : Nat} {v : Value} {xs : List Value} (h : w.ownsRow base 3 1 v n xs) (hn : 1 ≤ n) :
    ∃ g cap, v = .slice (some ⟨g, 0, none⟩) n cap ∧ base ≤ g ∧ n ≤ cap ∧ (∀ k x, xs[k]? = some x → w.cell? ⟨g, k, none⟩ = some x) ∧ (∀ k, w.frozen? ⟨g, k, none⟩ = false) := by
  obtain ⟨hl, h⟩ := h
  rcases h with ⟨rfl, rfl⟩ | ⟨g, cap, cur, rfl, hg, hh, hc, _, hs, ht⟩
  · omega
  · refine ⟨g, cap, rfl, hg, hc, fun k x hk => ?_, fun k => frozen_of_row _ _ _ _ _ hh⟩
    rw [cell_of_row _ _ _ _ _ _ hh]
    rw [← ht, List.getElem?_take] at hk
    split at hk
    · simpa using hk
    · cases hk

theorem ofInt_eq {a b : Int} (h : a % 18446744073709551616 = b % 18446744073709551616) : BitVec.ofInt 64 a = BitVec.ofInt 64 b := by
  apply BitVec.eq_of_toNat_eq
  rw [BitVec.toNat_ofInt, BitVec.toNat_ofInt]
  show (a % 18446744073709551616).toNat = (b % 18446744073709551616).toNat
  rw [h]

theorem bits_xor64 (x y : Int) : BitVec.ofInt 64 (bits .xor .i64 x y) = BitVec.ofInt 64 x ^^^ BitVec.ofInt 64 y := by
  have h : bits .xor .i64 x y = IntKind.i64.wrap (((BitVec.ofInt 64 x ^^^ BitVec.ofInt 64 y).toNat : Nat) : Int) := rfl
  rw [h, IntKind.wrap_i64]
  rw [ofInt_eq (b := (((BitVec.ofInt 64 x ^^^ BitVec.ofInt 64 y).toNat : Nat) : Int)) (by omega), BitVec.ofInt_natCast, BitVec.ofNat_toNat, BitVec.setWidth_eq]

theorem wrap_high (b : Nat) : BitVec.ofInt 64 (wrap64 ((b : Int) * 4294967296)) = BitVec.ofNat 64 (b * 4294967296) := by
  unfold wrap64
  rw [ofInt_eq (b := ((b * 4294967296 : Nat) : Int)) (by omega), BitVec.ofInt_natCast]

theorem ofWords_split (l : List Int) (k : Nat) (x : Int) (h : l[k]? = some x) :
    ofWords l = all (word (all (BitVec.allOnes 32) ((l.take k).map (BitVec.ofInt 64))) (BitVec.ofInt 64 x)) ((l.drop (k + 1)).map (BitVec.ofInt 64)) := by
  have hk : k < l.length := by
    rcases Nat.lt_or_ge k l.length with h' | h'
    · exact h'
    · rw [List.getElem?_eq_none h'] at h; cases h
  have e : l = l.take k ++ x :: l.drop (k + 1) := by
    rw [List.getElem?_eq_getElem hk] at h
    injection h with h
    rw [← h, ← List.drop_eq_getElem_cons hk, List.take_append_drop]
  unfold ofWords
  rw [congrArg (List.map (BitVec.ofInt 64)) e, List.map_append, all_append]
  rfl

/-- A word that is turned by something whose own check is not nothing turns the check. -/
theorem ofWords_turned (l : List Int) (k : Nat) (x y : Int) (v : BitVec 64) (h : l[k]? = some x) (hv : word 0#32 v ≠ 0#32)
    (hy : BitVec.ofInt 64 y = BitVec.ofInt 64 x ^^^ v) : (sumOf l != sumOf (l.set k y)) = true := by
  have hk : k < l.length := by
    rcases Nat.lt_or_ge k l.length with h' | h'
    · exact h'
    · rw [List.getElem?_eq_none h'] at h; cases h
  have hne : ofWords l ≠ ofWords (l.set k y) := by
    rw [ofWords_split l k x h, ofWords_split (l.set k y) k y (by simp [hk])]
    rw [List.take_set_of_le (Nat.le_refl _), List.drop_set_of_lt (Nat.lt_succ_self _)]
    intro e
    have e2 := all_inj e
    rw [hy, word_turn] at e2
    apply hv
    have : word (all (BitVec.allOnes 32) ((l.take k).map (BitVec.ofInt 64))) (BitVec.ofInt 64 x) ^^^ 0#32 = word (all (BitVec.allOnes 32) ((l.take k).map (BitVec.ofInt 64))) (BitVec.ofInt 64 x) ^^^ word 0#32 v := by
      rw [BitVec.xor_zero]; exact e2
    exact (xor_cancel_left this).symm
  rw [bne, sumOf_beq]
  simp [hne]

theorem own_set_reads {w w' : World} {base n g cap k : Nat} {xs : List Int} {y : Int} (h : w.ownsRow base 3 1 (.slice (some ⟨g, 0, none⟩) n cap) n (ints xs))
    (hb : Below (w.setCell ⟨g, k, none⟩ (.int .i64 y)).heap.size (w.setCell ⟨g, k, none⟩ (.int .i64 y)) w') : ReadsInts w' (some ⟨g, 0, none⟩) n (xs.set k y) := by
  have h1 := (World.ownsRow.stored h k (.int .i64 y)).1
  have h2 : (ints xs).set k (.int .i64 y) = ints (xs.set k y) := by simp [ints]
  rw [h2] at h1
  exact (Reads.of_own h1).ints.below hb

theorem sumHalves_walk (A : Option Addr) (n ca : Nat) (xa : List Int) (at_ by_ : Int) (high : Bool) (w : World)
    (ha : Reads w w.heap.size 1 A n (ints xa)) (hat0 : 0 ≤ at_) (hat1 : at_ < 65536) (hby0 : 0 ≤ by_) (hby1 : by_ < 4294967296) :
    Calls Try.prog 3 #[.slice A n ca, .int .u16 at_, .int .u32 by_, .bool high] w fun e w' => e = .returned (.bool true) ∧ Below w.heap.size w w' := by
  by_cases h1 : 1 ≤ n ∧ n ≤ 300 ∧ by_ ≠ 0
  · obtain ⟨h1, h2, h3⟩ := h1
    have d1 : ((n : Int) == 0) = false := by simp; omega
    have d2 : decide (300 < (n : Int)) = false := by simp; omega
    have HA := Lib.hid ha
    obtain ⟨i0, hi0, hz0, hz1, hz2⟩ := info_parts int_info
    obtain ⟨k, hk⟩ : ∃ k : Nat, at_ % (n : Int) = (k : Int) := Int.eq_ofNat_of_zero_le (Int.emod_nonneg _ (by omega))
    have hkn : k < n := by have := Int.emod_lt_of_pos at_ (show (0 : Int) < n by omega); omega
    have d3 : (by_ == 0) = false := by simp; omega
    obtain ⟨b, rfl⟩ := Int.eq_ofNat_of_zero_le hby0
    have hlow : ∀ l : List Int, ∀ x : Int, l[k]? = some x → (sumOf l != sumOf (l.set k (bits .xor .i64 x (b : Int)))) = true := fun l x h =>
      ofWords_turned l k x _ _ h (word_low b (by omega) (by omega)) (by rw [bits_xor64, BitVec.ofInt_natCast])
    have hhigh : ∀ l : List Int, ∀ x : Int, l[k]? = some x → (sumOf l != sumOf (l.set k (bits .xor .i64 x (wrap64 ((b : Int) * 4294967296))))) = true := fun l x h =>
      ofWords_turned l k x _ _ h (word_high b (by omega) (by omega)) (by rw [bits_xor64, wrap_high])
    have HL := Lib.hid hlow
    have HH := Lib.hid hhigh
    clear hlow hhigh
    clear ha h3
    cases high
    all_goals
      go_enter Try.func3, Try.ntmps3
      go_wp2_with fail
      refine (awake_any _).mono ?_
      rintro e w1 ⟨rfl, hB1⟩
      go_wp2_with (first
        | (at_builtin
           refine wpList_append_any _ rfl (.tmp 31) (.tmp 32) _ rfl w1.heap.size 3 i0 _ 1 8 Try.underlying22 hi0 hz0 hz1 hz2 rfl (by omega) _ 0 [] rfl (owns_empty w1 3 1) w.heap.size A n ca (ints xa) rfl (HA.out.below (hB1.alloc hB1.size _)) (ints_one _) (by simp only [maxLen]; omega) (by omega) (by simp) ?_
           intro v2 w2 hown2 hg2 hat2
           have hB2 : Below w.heap.size w w2 := (hB1.alloc hB1.size _).grown hg2 (hB1.alloc hB1.size _).size (fun k hk => Nat.le_trans hB1.size (own_ge (owns_empty w1 3 1) hk))
           rw [List.nil_append, Nat.zero_add] at hown2
           obtain ⟨g, cap, rfl, hg, hcap, hcell, hfro⟩ := own_open hown2 h1
           have HO2 := Lib.hid hown2
           have hlen : k < xa.length := by have := HA.out.ints.1; omega
           have hck := hcell k (.int .i64 xa[k]) (by simp [hlen])
           have hfk := hfro k
           clear hcell hfro
           have HX : Hid (xa[k]? = some xa[k]) := List.getElem?_eq_getElem hlen
           generalize xa[k] = x at *
           clear hown2 hat2 hg2))
      refine (of_call A n ca xa _ (HA.out.ints.below (hB2.setCell (p := ⟨g, k, none⟩) (Nat.le_trans hB1.size hg) _)) (by omega)).mono ?_
      rintro e w4 ⟨rfl, hB4⟩
      go_wp2_with fail
      refine (of_call _ n cap _ _ (own_set_reads HO2.out hB4) (by omega)).mono ?_
      rintro e w5 ⟨rfl, hB5⟩
      have hq1 := HL.out xa x HX.out
      have hq2 := HH.out xa x HX.out
      go_wp2
      go_ret
      exact ⟨rfl, ((hB2.setCell (p := ⟨g, k, none⟩) (Nat.le_trans hB1.size hg) _).next hB4).next hB5⟩
  · rcases (show n = 0 ∨ 1 ≤ n ∧ 300 < n ∨ 1 ≤ n ∧ n ≤ 300 ∧ by_ = 0 by omega) with h | ⟨h0, h⟩ | ⟨h0, h2, h⟩
    · subst h
      clear h1
      go_enter Try.func3, Try.ntmps3
      go_wp2_with fail
      refine (awake_any _).mono ?_
      rintro e w1 ⟨rfl, hB1⟩
      go_wp2
      go_ret
      exact ⟨rfl, hB1⟩
    · have d1 : ((n : Int) == 0) = false := by simp; omega
      clear h1
      go_enter Try.func3, Try.ntmps3
      go_wp2_with fail
      refine (awake_any _).mono ?_
      rintro e w1 ⟨rfl, hB1⟩
      go_wp2
      go_ret
      exact ⟨rfl, hB1⟩
    · have d1 : ((n : Int) == 0) = false := by simp; omega
      have d2 : decide (300 < (n : Int)) = false := by simp; omega
      subst h
      clear h1
      go_enter Try.func3, Try.ntmps3
      go_wp2_with fail
      refine (awake_any _).mono ?_
      rintro e w1 ⟨rfl, hB1⟩
      go_wp2
      go_ret
      exact ⟨rfl, hB1⟩

theorem u16_of {a : Int} (h : (Lit.int .u16 a).wf = true) : 0 ≤ a ∧ a < 65536 := by
  simp [Lit.wf, IntKind.min, IntKind.max, IntKind.signed, IntKind.bits] at h
  omega
theorem u32_rng {a : Int} (h : (Lit.int .u32 a).wf = true) : 0 ≤ a ∧ a < 4294967296 := by
  simp [Lit.wf, IntKind.min, IntKind.max, IntKind.signed, IntKind.bits] at h
  omega
end Go.Proofs.Ytggbmcmajdbkhaa
