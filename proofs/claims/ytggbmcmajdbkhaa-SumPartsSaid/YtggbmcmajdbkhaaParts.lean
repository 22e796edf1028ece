/- The walk of the law SumParts of the sum functions. -/
import Derived.Test.YtggbmcmajdbkhaaHalves
import Derived.WalkSpells
namespace Go.Proofs.Ytggbmcmajdbkhaa
open Go.RowKit
open Crc
set_option maxHeartbeats 1000000
set_option maxRecDepth 100000

/-- A check with the first ones of a list more. -/
def accAt (c : BitVec 32) (xs : List Int) (k : Nat) : BitVec 32 := all c ((xs.take k).map (BitVec.ofInt 64))
theorem accAt_succ (c : BitVec 32) (l : List Int) (k : Nat) (x : Int) (h : l[k]? = some x) : accAt c l (k + 1) = word (accAt c l k) (BitVec.ofInt 64 x) := by
  have : l.take (k + 1) = l.take k ++ [x] := by
    rw [List.take_add_one, h]; rfl
  unfold accAt
  rw [this, List.map_append, all_append]
  rfl

theorem ints_get {l : List Int} {k : Nat} {u : Value} (h : (ints l)[k]? = some u) : ∃ x, l[k]? = some x ∧ u = .int .i64 x := by
  rw [List.getElem?_map] at h
  cases hx : l[k]? with
  | none => rw [hx] at h; cases h
  | some x => rw [hx] at h; injection h with h; exact ⟨x, rfl, h.symm⟩

theorem start_eq (l m : List Int) : (4294967295 - sumOf l % 4294967296) = (((accAt (ofWords l) m 0).toNat : Nat) : Int) := by
  have h : accAt (ofWords l) m 0 = ofWords l := rfl
  rw [h]
  unfold sumOf
  have := (ofWords l).isLt
  omega

theorem u32_ext {a : Int} {c : BitVec 32} (h : a = (c.toNat : Int)) : Value.int .u32 a = u32 c := by rw [h]

theorem sumParts_walk (A B : Option Addr) (na nb ca cb : Nat) (xa xb : List Int) (w : World)
    (ha : Reads w w.heap.size 1 A na (ints xa)) (hb : Reads w w.heap.size 1 B nb (ints xb)) (h1 : na ≤ 100) (h2 : nb ≤ 100) :
    Calls Try.prog 8 #[.slice A na ca, .slice B nb cb] w fun e w' => e = .returned (.bool true) ∧ Below w.heap.size w w' := by
  have d1 : decide (100 < (na : Int)) = false := by simp; omega
  have d2 : decide (100 < (nb : Int)) = false := by simp; omega
  have HA := Lib.hid ha
  have HB := Lib.hid hb
  clear ha hb
  obtain ⟨i0, hi0, hz0, hz1, hz2⟩ := info_parts int_info
  go_enter Try.func8, Try.ntmps8
  go_wp2_with fail
  refine (awake_any _).mono ?_
  rintro e w1 ⟨rfl, hB1⟩
  go_wp2_with fail
  refine (of_call A _ ca xa _ (HA.out.ints.below hB1) (by omega)).mono ?_
  rintro e w2 ⟨rfl, hB2⟩
  go_wp2_with fail
  go_loopw [6, 7] (fun c i wr => ∃ k : Nat, k ≤ nb ∧ i = .int .i64 k ∧ c = u32 (accAt (ofWords xa) xb k) ∧ Below w.heap.size w wr) (fun _ i _ => nb - (intOf i).toNat)
  case atStart => exact ⟨0, by omega, rfl, u32_ext (start_eq xa xb), hB1.next hB2⟩
  case round =>
    obtain ⟨k, hk, rfl, rfl, hBr⟩ := hrel
    by_cases hlt : k < nb
    · obtain ⟨adB, x, rfl, hbB, hxB, _⟩ := (HB.out.below hBr).at_ hlt
      obtain ⟨x, hxB', rfl⟩ := ints_get hxB
      have HN := Lib.hid (accAt_succ (ofWords xa) xb k x hxB')
      have HX := Lib.hid hxB
      clear hxB hxB'
      go_wp2_with fail
      go_loopw [8, 9] (fun d kk wi => ∃ (n : Nat) (c : BitVec 32), n ≤ 8 ∧ kk = .int .i64 ((n : Int) - 1) ∧ d = Go.Proofs.Ytggbmcmajdbkhaa.u32 c ∧ Hid (Crc.bytes c (BitVec.ofInt 64 x) n = word (accAt (ofWords xa) xb k) (BitVec.ofInt 64 x)) ∧ Below w.heap.size w wi) (fun _ kk _ => (intOf kk + 1).toNat)
      case atStart => exact ⟨8, _, by omega, rfl, rfl, Lib.hid (show Crc.bytes _ _ 8 = word _ _ from rfl), hBr⟩
      case round =>
        obtain ⟨n, d, hn, rfl, rfl, hh, hBi⟩ := hrel
        obtain ⟨ad2, x2, he2, _, hx2, hcell⟩ := (HB.out.below hBi).at_ hlt
        have hx3 := HX.out
        rw [hx3] at hx2
        injection hx2 with hx2
        injection he2 with he2
        subst hx2
        subst he2
        clear hx3
        by_cases h8 : 1 ≤ n
        · have hp0 : 0 ≤ IntKind.u64.wrap x / 2 ^ (8 * (n - 1)) % 256 := by omega
          have hp1 : IntKind.u64.wrap x / 2 ^ (8 * (n - 1)) % 256 < 256 := by omega
          go_wp2_with fail
          refine (byte_call d _ hp0 hp1 _).mono ?_
          rintro e w4 ⟨rfl, hB4⟩
          go_wp2_with fail
          go_roundw
          case rel =>
            refine ⟨n - 1, _, by omega, ?_, rfl, Lib.hid ?_, hBi.next hB4⟩
            · rw [show ((n - 1 : Nat) : Int) - 1 = (n : Int) - 1 - 1 from by omega]
            · obtain ⟨m, rfl⟩ : ∃ m, n = m + 1 := ⟨n - 1, by omega⟩
              have hp := piece_form x (m + 1) h8
              rw [show 8 * (m + 1) - 8 = 8 * (m + 1 - 1) from by omega] at hp
              rw [hp]
              exact hh.out
          case measure => simp [intOf]; omega
        · obtain rfl : n = 0 := by omega
          have hw : d = word (accAt (ofWords xa) xb k) (BitVec.ofInt 64 x) := hh.out
          subst hw
          go_wp2_with fail
          refine (word_call _ x _).mono ?_
          rintro e w4 ⟨rfl, hB4⟩
          go_wp2_with fail
          go_roundw
          case rel => exact ⟨k + 1, by omega, by go_num, by rw [HN.out], hBi.next hB4⟩
          case measure => simp [intOf]; omega
    · obtain rfl : k = nb := by omega
      have hc : sumOf (xa ++ xb) = 4294967295 - ((accAt (ofWords xa) xb k).toNat : Int) := by
        have hl := HB.out.ints.1
        unfold sumOf accAt
        rw [ofWords_append, List.take_of_length_le (by omega)]
      have hl1 : ((accAt (ofWords xa) xb k).toNat : Int) < 4294967296 := by have := (accAt (ofWords xa) xb k).isLt; omega
      have HCC := Lib.hid hc
      clear hc
      have hs0 := hBr.size
      go_wp2_with (first
        | (at_builtin
           refine wpList_append_any _ rfl (.tmp 56) (.tmp 57) _ rfl wr.heap.size 3 i0 _ 1 8 Try.underlying22 hi0 hz0 hz1 hz2 rfl (by omega) _ 0 [] rfl (owns_empty wr 3 1) w.heap.size A na ca (ints xa) rfl (HA.out.below (hBr.alloc hBr.size _)) (ints_one _) (by simp only [maxLen]; omega) (by omega) (by simp) ?_
           intro v2 w4 hown2 hg2 hat2
           have hB4 : Below wr.heap.size wr w4 := ((Below.refl _ _).alloc (Nat.le_refl _) _).grown hg2 ((Below.refl _ _).alloc (Nat.le_refl _) _).size (fun k hk => own_ge (owns_empty wr 3 1) hk)
           rw [List.nil_append, Nat.zero_add] at hown2
           have HO2 := Lib.hid hown2
           clear hown2 hat2 hg2)
        | (at_builtin
           refine wpList_append_any _ rfl (.tmp 58) (.tmp 59) _ rfl wr.heap.size 3 i0 _ 1 8 Try.underlying22 hi0 hz0 hz1 hz2 rfl (by omega) v2 na (ints xa) rfl HO2.out w.heap.size B k cb (ints xb) rfl (HB.out.below (hBr.next hB4)) (ints_one _) (by simp only [maxLen]; omega) (by omega) hB4.size ?_
           intro v3 w5 hown3 hg3 hat3
           have hB5 : Below wr.heap.size wr w5 := hB4.grown hg3 hB4.size (fun k hk => own_ge HO2.out hk)
           rw [ints_append] at hown3
           obtain ⟨A3, c3, rfl, hr3⟩ := own_form hown3
           have HR3 := Lib.hid hr3
           clear hown3 hat3 hg3 hr3))
      refine (of_call A3 _ c3 _ _ HR3.out.ints (by omega)).mono ?_
      have hcc := HCC.out
      generalize sumOf (xa ++ xb) = s at *
      rintro e w7 ⟨rfl, hB7⟩
      have q1 : (s == 4294967295 - ((accAt (ofWords xa) xb k).toNat : Int)) = true := by rw [hcc]; exact beq_self_eq_true _
      have q2 : decide (0 ≤ s) = true := by rw [decide_eq_true_eq]; omega
      have q3 : decide (s < 4294967296) = true := by rw [decide_eq_true_eq]; omega
      clear hcc
      go_wp2
      go_ret
      exact ⟨rfl, (hBr.next hB5).next hB7⟩

theorem sumParts_all (A B : Option Addr) (na nb ca cb : Nat) (xa xb : List Int) (w : World)
    (ha : Reads w w.heap.size 1 A na (ints xa)) (hb : Reads w w.heap.size 1 B nb (ints xb)) :
    Calls Try.prog 8 #[.slice A na ca, .slice B nb cb] w fun e w' => e = .returned (.bool true) ∧ Below w.heap.size w w' := by
  rcases (show 100 < na ∨ na ≤ 100 ∧ 100 < nb ∨ na ≤ 100 ∧ nb ≤ 100 by omega) with h | ⟨h0, h⟩ | ⟨h0, h⟩
  · have d1 : decide (100 < (na : Int)) = true := by simp; omega
    clear h ha hb
    go_enter Try.func8, Try.ntmps8
    go_wp2_with fail
    refine (awake_any _).mono ?_
    rintro e w1 ⟨rfl, hB1⟩
    go_wp2
    go_ret
    exact ⟨rfl, hB1⟩
  · have d1 : decide (100 < (na : Int)) = false := by simp; omega
    have d2 : decide (100 < (nb : Int)) = true := by simp; omega
    clear h ha hb
    go_enter Try.func8, Try.ntmps8
    go_wp2_with fail
    refine (awake_any _).mono ?_
    rintro e w1 ⟨rfl, hB1⟩
    go_wp2
    go_ret
    exact ⟨rfl, hB1⟩
  · exact sumParts_walk A B na nb ca cb xa xb w ha hb h0 h
end Go.Proofs.Ytggbmcmajdbkhaa
