/- The walk of AllocBack. -/
import Derived.Test.YtjidfnogmedgnaaPlain
import Derived.Test.YtjidfnogmedgnaaParts
namespace Go.Proofs.Ytjidfnogmedgnaa
open Go.RowKit
set_option maxHeartbeats 1000000
set_option maxRecDepth 100000

/-- What is back after some gifts. -/
def GInv (xs : List Int) (a t k : Nat) (bk : List Int) : Prop :=
  chk bk = true ∧ (∀ u, u ∈ bk ↔ u ∈ xs.drop a ∨ ∃ j, j < k ∧ (xs.take a)[(j + t) % a]? = some u) ∧ bk.length = (xs.length - a) + k
theorem ginv_start {xs : List Int} (hc : chk xs = true) (a t : Nat) : GInv xs a t 0 (xs.drop a) :=
  ⟨chk_drop hc a, fun u => by simp, by simp⟩
theorem turn_inj {a t j k : Nat} (hjk : j < k) (hk : k < a) (h : (j + t) % a = (k + t) % a) : False := by
  have h1 := Nat.sub_mod_eq_zero_of_mod_eq h.symm
  rw [show k + t - (j + t) = k - j from by omega, Nat.mod_eq_of_lt (by omega)] at h1
  omega
theorem rise_inj {l : List Int} (h : Rise l) {p q : Nat} {u : Int} (hp : l[p]? = some u) (hq : l[q]? = some u) : p = q := by
  rcases Nat.lt_trichotomy p q with h1 | h1 | h1
  · have := h p q u u h1 hp hq; omega
  · exact h1
  · have := h q p u u h1 hq hp; omega
theorem ginv_fresh {xs : List Int} (hc : chk xs = true) {a t k : Nat} {bk : List Int} (hk : k < a) (hg : GInv xs a t k bk) {y : Int} (hy : (xs.take a)[(k + t) % a]? = some y) :
    isIn bk y = false ∧ isBlock y = true := by
  have hr := ((chk_iff _).1 hc).2
  refine ⟨?_, (chk_mem hc y (List.mem_of_mem_take (List.mem_of_getElem? hy))).2⟩
  cases h : isIn bk y with
  | false => rfl
  | true =>
    rw [isIn_iff, hg.2.1] at h
    rcases h with h | ⟨j, hj, h⟩
    · exact (rise_disjoint hr a (List.mem_of_getElem? hy) h).elim
    · exact (turn_inj hj hk (rise_inj (rise_take hr a) h hy)).elim
theorem ginv_step {xs : List Int} {a t k : Nat} {bk bk' : List Int} (hg : GInv xs a t k bk) {y : Int} (hy : (xs.take a)[(k + t) % a]? = some y)
    (h1 : chk bk' = true) (h2 : ∀ u, u ∈ bk' ↔ u = y ∨ u ∈ bk) (h3 : bk'.length = bk.length + 1) : GInv xs a t (k + 1) bk' := by
  refine ⟨h1, fun u => ?_, by rw [h3, hg.2.2]; omega⟩
  rw [h2, hg.2.1]
  constructor
  · rintro (rfl | h | ⟨j, hj, h⟩)
    · exact .inr ⟨k, by omega, hy⟩
    · exact .inl h
    · exact .inr ⟨j, by omega, h⟩
  · rintro (h | ⟨j, hj, h⟩)
    · exact .inr (.inl h)
    · by_cases e : j = k
      · subst e
        rw [hy] at h
        injection h with h
        exact .inl h.symm
      · exact .inr (.inr ⟨j, by omega, h⟩)
theorem ginv_end {xs : List Int} (hc : chk xs = true) {a t : Nat} {bk : List Int} (ha : a ≤ xs.length) (hg : GInv xs a t a bk) : bk = xs := by
  refine rise_ext _ _ ((chk_iff _).1 hg.1).2 ((chk_iff _).1 hc).2 (fun u => ?_)
  rw [hg.2.1]
  constructor
  · rintro (h | ⟨j, hj, h⟩)
    · exact List.mem_of_mem_drop h
    · exact List.mem_of_mem_take (List.mem_of_getElem? h)
  · intro h
    rw [← List.take_append_drop a xs, List.mem_append] at h
    rcases h with h | h
    · obtain ⟨s, hs, he⟩ := List.mem_iff_getElem.1 h
      rw [List.length_take] at hs
      have ht : t % a < a := Nat.mod_lt _ (by omega)
      refine .inr ⟨if t % a ≤ s then s - t % a else s + a - t % a, by split <;> omega, ?_⟩
      have e : ((if t % a ≤ s then s - t % a else s + a - t % a) + t) % a = s := by
        rw [Nat.add_mod]
        split
        · rw [Nat.mod_eq_of_lt (show s - t % a < a by omega), Nat.sub_add_cancel (by assumption), Nat.mod_eq_of_lt (by omega)]
        · rw [Nat.mod_eq_of_lt (show s + a - t % a < a by omega), Nat.sub_add_cancel (by omega), Nat.add_mod_right, Nat.mod_eq_of_lt (by omega)]
      rw [e, List.getElem?_eq_getElem (by rw [List.length_take]; omega), he]
    · exact .inl h

theorem back_all (A : Option Addr) (n c : Nat) (xs : List Int) (a t : Nat) (w : World) (h : RI w A n xs) (hnc : n ≤ c) (hn : n ≤ 9223372036854775807) (ha : a < 256) (ht : t < 256) :
    Calls Try.prog 4 #[.slice A n c, .int .u8 a, .int .u8 t] w fun e w' => e = .returned (.bool true) ∧ Below w.heap.size w w' := by
  have HR := Lib.hid h
  clear h
  by_cases h1 : 1000 < n
  · go_enter Try.func4, Try.ntmps4
    go_wp2_with fail
    refine (awake_any w).mono ?_
    rintro e w1 ⟨rfl, hB1⟩
    go_wp2
    go_ret
    exact ⟨rfl, hB1⟩
  clear hn
  cases hc : chk xs with
  | false =>
    go_enter Try.func4, Try.ntmps4
    go_wp2_with fail
    refine (awake_any w).mono ?_
    rintro e w1 ⟨rfl, hB1⟩
    go_wp2_with fail
    refine (check_any A n c xs _ (HR.out.below hB1) (by omega)).mono ?_
    rw [hc]
    rintro e w2 ⟨rfl, rfl⟩
    go_wp2
    go_ret
    exact ⟨rfl, hB1⟩
  | true =>
    have HC := Lib.hid hc
    have HL := Lib.hid HR.out.len
    clear hc
    by_cases han : n < a
    · have HT1 := Lib.hid (take_full HC.out (k := a) (by rw [HL.out]; exact han))
      go_enter Try.func4, Try.ntmps4
      go_wp2_with fail
      refine (awake_any w).mono ?_
      rintro e w1 ⟨rfl, hB1⟩
      have hu := HR.out.below hB1
      go_wp2_with fail
      refine (check_any A n c xs _ hu (by omega)).mono ?_
      rw [HC.out]
      rintro e w2 ⟨rfl, rfl⟩
      go_wp2_with fail
      refine (take_any A n c xs a _ hu (by omega) hnc).mono ?_
      rw [HT1.out]
      rintro e w2 ⟨A1, n1, c1, A2, n2, c2, rfl, hc1, hc2, hr1, hr2, hB2⟩
      obtain rfl : n1 = 0 := hr1.len.symm
      obtain rfl : n2 = n := by rw [← hr2.len, HL.out]
      replace hu := hu.below hB2
      replace hB1 := hB1.next hB2
      clear hB2
      go_wp2_with fail
      refine (numbers_any A2 n2 c2 xs A n2 c xs _ hr2 hu (by omega) (by omega)).mono ?_
      rw [show decide (xs = xs) = true from by simp]
      rintro e w5 ⟨rfl, hB2⟩
      go_wp2
      go_ret
      exact ⟨rfl, hB1.next hB2⟩
    · have HT1 := Lib.hid (take_ok HC.out (k := a) (by rw [HL.out]; omega))
      go_enter Try.func4, Try.ntmps4
      go_wp2_with fail
      refine (awake_any w).mono ?_
      rintro e w1 ⟨rfl, hB1⟩
      have hu := HR.out.below hB1
      go_wp2_with fail
      refine (check_any A n c xs _ hu (by omega)).mono ?_
      rw [HC.out]
      rintro e w2 ⟨rfl, rfl⟩
      go_wp2_with fail
      refine (take_any A n c xs a _ hu (by omega) hnc).mono ?_
      rw [HT1.out]
      rintro e w2 ⟨A1, n1, c1, A2, n2, c2, rfl, hc1, hc2, hr1, hr2, hB2⟩
      obtain rfl : n1 = a := by rw [← hr1.len, List.length_take, HL.out]; omega
      obtain rfl : n2 = n - n1 := by rw [← hr2.len, List.length_drop, HL.out]
      replace hu := hu.below hB2
      replace hB1 := hB1.next hB2
      clear hB2
      go_wp2
      go_loopw [11] (fun i wr => ∃ k : Nat, k ≤ n1 ∧ i = .int .i64 k ∧ wr = w2) (fun i _ => n1 - (intOf i).toNat)
      case atStart => exact ⟨0, by omega, rfl, rfl⟩
      case round =>
        obtain ⟨k, hk, rfl, rfl⟩ := hrel
        by_cases hlt : k < n1
        · obtain ⟨ad, y, rfl, hb, hx, hcell⟩ := hr1.at_ hlt
          have HY1 : Hid (isIn (xs.drop n1) y = false) := Lib.hid (by
            cases h : isIn (xs.drop n1) y with
            | false => rfl
            | true => exact (rise_disjoint ((chk_iff _).1 HC.out).2 n1 (List.mem_of_getElem? hx) ((isIn_iff _ _).1 h)).elim)
          have HY2 : Hid (isIn xs y = true) := Lib.hid ((isIn_iff _ _).2 (List.mem_of_mem_take (List.mem_of_getElem? hx)))
          clear hx
          go_wp2_with fail
          refine (in_any A2 (n - n1) c2 _ y _ hr2 (by omega)).mono ?_
          rw [HY1.out]
          rintro e w4 ⟨rfl, rfl⟩
          go_wp2_with fail
          refine (in_any A n c xs y _ hu (by omega)).mono ?_
          rw [HY2.out]
          rintro e w4 ⟨rfl, rfl⟩
          go_wp2
          exact ⟨⟨k + 1, by omega, by go_num, by first | trivial | rfl⟩, by simp [intOf]; omega⟩
        · obtain rfl : k = n1 := by omega
          obtain ⟨wo, rfl⟩ : ∃ wo : World, wo = wr := ⟨_, rfl⟩
          go_wp2
          go_loopw [12, 13] (fun v i wi => ∃ (j : Nat) (A' : Option Addr) (m' c' : Nat) (bk : List Int), j ≤ k ∧ i = .int .i64 j ∧ v = .slice A' m' c' ∧ m' ≤ c' ∧ Hid (RI wi A' m' bk) ∧ Hid (GInv xs k t j bk) ∧ Below wo.heap.size wo wi) (fun _ i _ => k - (intOf i).toNat)
          case atStart => exact ⟨0, A2, n - k, c2, xs.drop k, by omega, rfl, rfl, hc2, Lib.hid hr2, Lib.hid (ginv_start HC.out k t), Below.refl _ _⟩
          case round =>
            obtain ⟨j, A', m', c', bk, hj, rfl, rfl, hmc, HRB, HGI, hBi⟩ := hrel
            have hm' : m' ≤ 1000 := by
              have h1 := HRB.out.len
              have h2 := HGI.out.2.2
              have h3 := HL.out
              omega
            by_cases hjk : j < k
            · have hrot : (j + t) % k < k := Nat.mod_lt _ (by omega)
              obtain ⟨ad, y, rfl, hb, hx, hcell0⟩ := hr1.at_ hrot
              have hcell : wr.cell? (ad.add ((j + t) % k)) = some (.int .i64 y) := (hBi.cell (by rw [add_block]; exact hb)).trans hcell0
              clear hcell0
              obtain ⟨hf1, hf2⟩ := ginv_fresh HC.out hjk HGI.out hx
              obtain ⟨bk', hg, hcl, hml, hll⟩ := give_ok HGI.out.1 hf2 hf1
              have HG := Lib.hid hg
              have HCL := Lib.hid hcl
              have HGI2 := Lib.hid (ginv_step HGI.out hx hcl hml hll)
              have HLL : Hid (bk'.length = m' + 1) := Lib.hid (by rw [hll, HRB.out.len])
              clear hx hf1 hf2 hg hcl hml hll
              have hkz : ((k : Nat) : Int) ≠ 0 := by omega
              have hrem : Int.tmod ((j : Int) + (t : Int)) (k : Int) = (((j + t) % k : Nat) : Int) := by
                rw [Int.tmod_eq_emod_of_nonneg (by omega)]
                simp only [Int.natCast_emod, Int.natCast_add]
              generalize hz : (j + t) % k = z at *
              clear hz
              go_wp2_with fail
              refine (give_any A' m' c' bk y _ HRB.out (by omega) hmc).mono ?_
              rw [HG.out]
              rintro e w4 ⟨A3, n3, c3, rfl, hc3, hr3, hB3⟩
              obtain rfl : n3 = m' + 1 := by rw [← hr3.len, HLL.out]
              have HR3 := Lib.hid hr3
              clear hr3
              go_wp2_with fail
              refine (check_any A3 (m' + 1) c3 bk' _ HR3.out (by omega)).mono ?_
              rw [HCL.out]
              rintro e w5 ⟨rfl, rfl⟩
              go_wp2
              exact ⟨⟨j + 1, A3, m' + 1, c3, bk', by omega, by go_num, rfl, hc3, HR3, HGI2, hBi.next hB3⟩, by simp [intOf]; omega⟩
            · obtain rfl : j = k := by omega
              have HE := Lib.hid (ginv_end HC.out (by rw [HL.out]; omega) HGI.out)
              have hrb := HRB.out
              rw [HE.out] at hrb
              obtain rfl : m' = n := by rw [← hrb.len, HL.out]
              replace hu := hu.below hBi
              go_wp2_with fail
              refine (numbers_any A' m' c' xs A m' c xs _ hrb hu (by omega) (by omega)).mono ?_
              rw [show decide (xs = xs) = true from by simp]
              rintro e w5 ⟨rfl, hB2⟩
              go_wp2
              go_ret
              exact ⟨rfl, (hB1.next hBi).next hB2⟩
end Go.Proofs.Ytjidfnogmedgnaa
