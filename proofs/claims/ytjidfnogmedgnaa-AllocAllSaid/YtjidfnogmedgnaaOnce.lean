/- The walks of AllocOnce and AllocAll. -/
import Derived.Test.YtjidfnogmedgnaaPlain
import Derived.Test.YtjidfnogmedgnaaTells
namespace Go.Proofs.Ytjidfnogmedgnaa
open Go.RowKit
set_option maxHeartbeats 1000000
set_option maxRecDepth 100000

theorem once_all (A : Option Addr) (n c : Nat) (xs : List Int) (x : Int) (w : World) (h : RI w A n xs) (hnc : n ≤ c) (hn : n ≤ 9223372036854775807) :
    Calls Try.prog 6 #[.slice A n c, .int .i64 x] w fun e w' => e = .returned (.bool true) ∧ Below w.heap.size w w' := by
  have HR := Lib.hid h
  clear h
  by_cases h1 : 1000 < n
  · go_enter Try.func6, Try.ntmps6
    go_wp2_with fail
    refine (awake_any w).mono ?_
    rintro e w1 ⟨rfl, hB1⟩
    go_wp2
    go_ret
    exact ⟨rfl, hB1⟩
  clear hn
  cases hc : chk xs with
  | false =>
    go_enter Try.func6, Try.ntmps6
    go_wp2_with fail
    refine (awake_any w).mono ?_
    rintro e w1 ⟨rfl, hB1⟩
    go_wp2_with fail
    refine (check_any A n c xs _ (HR.out.below hB1) (by omega)).mono ?_
    rw [hc]
    rintro e w2 ⟨rfl, rfl⟩
    go_wp2
    go_ret
    exact ⟨rfl, hB1⟩
  | true =>
    have HC := Lib.hid hc
    by_cases hbad : isBlock x = false ∨ isIn xs x = true
    · have HG := Lib.hid (give_not (xs := xs) (x := x) (.inr hbad))
      have HX := Lib.hid (show (isIn xs x || (decide (x < 1) || decide (255 < x))) = true from by
        rcases hbad with h | h
        · simp [isBlock] at h
          by_cases h2 : x < 1
          · simp [h2]
          · simp; right; right; omega
        · simp [h])
      clear hbad
      go_enter Try.func6, Try.ntmps6
      go_wp2_with fail
      refine (awake_any w).mono ?_
      rintro e w1 ⟨rfl, hB1⟩
      have hu := HR.out.below hB1
      go_wp2_with fail
      refine (check_any A n c xs _ hu (by omega)).mono ?_
      rw [HC.out]
      rintro e w2 ⟨rfl, rfl⟩
      go_wp2_with fail
      refine (give_any A n c xs x _ hu (by omega) hnc).mono ?_
      rw [HG.out]
      rintro e w2 ⟨A1, n1, c1, rfl, hc1, hr1, hB2⟩
      obtain rfl : n1 = n := by rw [← hr1.len, HR.out.len]
      replace hu := hu.below hB2
      replace hB1 := hB1.next hB2
      clear hB2
      go_wp2_with fail
      refine (give_any A1 n1 c1 xs x _ hr1 (by omega) hc1).mono ?_
      rw [HG.out]
      rintro e w3 ⟨A2, n2, c2, rfl, hc2, hr2, hB2⟩
      replace hu := hu.below hB2
      replace hr1 := hr1.below hB2
      replace hB1 := hB1.next hB2
      clear hB2
      go_wp2_with fail
      refine (numbers_any A1 n1 c1 xs A n1 c xs _ hr1 hu (by omega) (by omega)).mono ?_
      rw [show decide (xs = xs) = true from by simp]
      rintro e w4 ⟨rfl, hB2⟩
      replace hu := hu.below hB2
      replace hB1 := hB1.next hB2
      clear hB2
      go_wp2_with fail
      refine (in_any A n1 c xs x _ hu (by omega)).mono ?_
      cases hi : isIn xs x with
      | true =>
        rintro e w5 ⟨rfl, rfl⟩
        go_wp2
        go_ret
        exact ⟨rfl, hB1⟩
      | false =>
        rintro e w5 ⟨rfl, rfl⟩
        have hx := HX.out
        rw [hi, Bool.false_or] at hx
        by_cases h0 : x < 1
        · go_wp2
          go_ret
          exact ⟨rfl, hB1⟩
        · have h2 : 255 < x := by simp at hx; omega
          clear hx
          go_wp2
          go_ret
          exact ⟨rfl, hB1⟩
    · have hb : isBlock x = true := by
        cases h : isBlock x with
        | true => rfl
        | false => exact absurd (.inl h) hbad
      have hi : isIn xs x = false := by
        cases h : isIn xs x with
        | false => rfl
        | true => exact absurd (.inr h) hbad
      obtain ⟨l, hg, hcl, hml, hll⟩ := give_ok hc hb hi
      have HG := Lib.hid hg
      have HCL := Lib.hid hcl
      have HM := Lib.hid hml
      have HL := Lib.hid hll
      have HI := Lib.hid hi
      have HG2 := Lib.hid (give_not (xs := l) (x := x) (.inr (.inr ((isIn_iff l x).2 ((hml x).2 (.inl rfl))))))
      clear hg hcl hml hll hi hbad
      go_enter Try.func6, Try.ntmps6
      go_wp2_with fail
      refine (awake_any w).mono ?_
      rintro e w1 ⟨rfl, hB1⟩
      have hu := HR.out.below hB1
      go_wp2_with fail
      refine (check_any A n c xs _ hu (by omega)).mono ?_
      rw [HC.out]
      rintro e w2 ⟨rfl, rfl⟩
      go_wp2_with fail
      refine (give_any A n c xs x _ hu (by omega) hnc).mono ?_
      rw [HG.out]
      rintro e w2 ⟨A1, n1, c1, rfl, hc1, hr1, hB2⟩
      obtain rfl : n1 = n + 1 := by rw [← hr1.len, ← HR.out.len]; exact HL.out
      replace hu := hu.below hB2
      replace hB1 := hB1.next hB2
      clear hB2
      go_wp2_with fail
      refine (give_any A1 (n + 1) c1 l x _ hr1 (by omega) hc1).mono ?_
      rw [HG2.out]
      rintro e w3 ⟨A2, n2, c2, rfl, hc2, hr2, hB2⟩
      replace hu := hu.below hB2
      replace hr1 := hr1.below hB2
      replace hB1 := hB1.next hB2
      clear hB2
      go_wp2
      go_loopw [10] (fun i wr => ∃ k : Nat, k ≤ n ∧ i = .int .i64 k ∧ wr = w3) (fun i _ => n - (intOf i).toNat)
      case atStart => exact ⟨0, by omega, rfl, rfl⟩
      case round =>
        obtain ⟨k, hk, rfl, rfl⟩ := hrel
        by_cases hlt : k < n
        · obtain ⟨ad, y, rfl, hb, hx, hcell⟩ := hu.at_ hlt
          have HY := Lib.hid (show isIn l y = true from (isIn_iff l y).2 ((HM.out y).2 (.inr (List.mem_of_getElem? hx))))
          clear hx
          go_wp2_with fail
          refine (in_any A1 (n + 1) c1 l y _ hr1 (by omega)).mono ?_
          rw [HY.out]
          rintro e w4 ⟨rfl, rfl⟩
          go_wp2
          exact ⟨⟨k + 1, by omega, by go_num, by first | trivial | rfl⟩, by simp [intOf]; omega⟩
        · obtain rfl : k = n := by omega
          go_wp2_with fail
          refine (in_any A1 (k + 1) c1 l x _ hr1 (by omega)).mono ?_
          rw [show isIn l x = true from (isIn_iff l x).2 ((HM.out x).2 (.inl rfl))]
          rintro e w4 ⟨rfl, rfl⟩
          go_wp2_with fail
          refine (in_any A k c xs x _ hu (by omega)).mono ?_
          rw [HI.out]
          rintro e w4 ⟨rfl, rfl⟩
          go_wp2_with fail
          refine (check_any A1 (k + 1) c1 l _ hr1 (by omega)).mono ?_
          rw [HCL.out]
          rintro e w4 ⟨rfl, rfl⟩
          go_wp2
          go_ret
          exact ⟨rfl, hB1⟩

theorem all_all (b : Int) (A : Option Addr) (n c : Nat) (xs : List Int) (w : World) (h : RI w A n xs) (hb0 : 0 ≤ b) (hb1 : b ≤ 65535) (hn : n ≤ 9223372036854775807) :
    Calls Try.prog 5 #[.int .u16 b, .slice A n c] w fun e w' => e = .returned (.bool true) ∧ Below w.heap.size w w' := by
  have HR := Lib.hid h
  clear h
  by_cases h1 : 1000 < n
  · go_enter Try.func5, Try.ntmps5
    go_wp2_with fail
    refine (awake_any w).mono ?_
    rintro e w1 ⟨rfl, hB1⟩
    go_wp2
    go_ret
    exact ⟨rfl, hB1⟩
  clear hn
  obtain ⟨m, rfl⟩ := Int.eq_ofNat_of_zero_le hb0
  clear hb0
  by_cases h2 : m < 1
  · obtain rfl : m = 0 := by omega
    have HF := Lib.hid (show freeOf ((0 : Nat) : Int) xs = ([], 1) from by simp [freeOf])
    go_enter Try.func5, Try.ntmps5
    go_wp2_with fail
    refine (awake_any w).mono ?_
    rintro e w1 ⟨rfl, hB1⟩
    have hu := HR.out.below hB1
    go_wp2_with fail
    refine (free_any ((0 : Nat) : Int) A n c xs _ hu (by omega)).mono ?_
    rw [HF.out]
    rintro e w2 ⟨A1, n1, c1, rfl, hc1, hr1, hB2⟩
    obtain rfl : n1 = 0 := hr1.len.symm
    replace hB1 := hB1.next hB2
    clear hB2
    go_wp2
    go_ret
    exact ⟨rfl, hB1⟩
  by_cases h3 : 256 < m
  · have HF := Lib.hid (show freeOf (m : Int) xs = ([], 1) from by simp [freeOf]; omega)
    go_enter Try.func5, Try.ntmps5
    go_wp2_with fail
    refine (awake_any w).mono ?_
    rintro e w1 ⟨rfl, hB1⟩
    have hu := HR.out.below hB1
    go_wp2_with fail
    refine (free_any (m : Int) A n c xs _ hu (by omega)).mono ?_
    rw [HF.out]
    rintro e w2 ⟨A1, n1, c1, rfl, hc1, hr1, hB2⟩
    obtain rfl : n1 = 0 := hr1.len.symm
    replace hB1 := hB1.next hB2
    clear hB2
    go_wp2
    go_ret
    exact ⟨ret_bool (by simp; omega), hB1⟩
  have HF := Lib.hid (show freeOf (m : Int) xs = (freeTo (takenBy xs) m, 0) from by simp [freeOf]; omega)
  have HC := Lib.hid (chk_freeTo (takenBy xs) m (by omega))
  have HL := Lib.hid (freeTo_len (takenBy xs) m)
  go_enter Try.func5, Try.ntmps5
  go_wp2_with fail
  refine (awake_any w).mono ?_
  rintro e w1 ⟨rfl, hB1⟩
  have hu := HR.out.below hB1
  go_wp2_with fail
  refine (free_any (m : Int) A n c xs _ hu (by omega)).mono ?_
  rw [HF.out]
  rintro e w2 ⟨A1, n1, c1, rfl, hc1, hr1, hB2⟩
  have hn1 : n1 ≤ 256 := by have := HL.out; rw [hr1.len] at this; omega
  replace hu := hu.below hB2
  replace hB1 := hB1.next hB2
  clear hB2
  go_wp2
  go_loopw [8, 9] (fun v i wr => ∃ k : Nat, 1 ≤ k ∧ k ≤ m ∧ i = .int .i64 k ∧ v = .int .i64 ((freeTo (takenBy xs) k).length : Nat) ∧ wr = w2) (fun _ i _ => m - (intOf i).toNat)
  case atStart => exact ⟨1, by omega, by omega, rfl, by simp [freeTo], rfl⟩
  case round =>
    obtain ⟨k, hk0, hk, rfl, rfl, rfl⟩ := hrel
    by_cases hlt : k < m
    · have HK := Lib.hid (freeTo_len (takenBy xs) k)
      have HI := Lib.hid (show isIn (freeTo (takenBy xs) m) k = !isIn xs k from by
        rw [← taken_isIn xs k (by omega) (by omega), Bool.eq_iff_iff, isIn_iff, mem_freeTo]
        constructor
        · rintro ⟨n, h1, h2, h3, h4⟩
          obtain rfl : n = k := by omega
          simp [h4]
        · intro h
          exact ⟨k, rfl, by omega, hlt, by simpa using h⟩)
      cases hi : isIn xs k with
      | true =>
        have HS := Lib.hid (show (freeTo (takenBy xs) (k + 1)).length = (freeTo (takenBy xs) k).length from by
          rw [freeTo, taken_isIn xs k (by omega) (by omega), hi]; simp)
        go_wp2_with fail
        refine (in_any A n c xs k _ hu (by omega)).mono ?_
        rw [hi]
        rintro e w4 ⟨rfl, rfl⟩
        go_wp2_with fail
        refine (in_any A1 n1 c1 _ k _ hr1 (by omega)).mono ?_
        rw [HI.out, hi]
        rintro e w4 ⟨rfl, rfl⟩
        go_wp2
        exact ⟨⟨k + 1, by omega, by omega, by go_num, by rw [HS.out], by first | trivial | rfl⟩, by simp [intOf]; omega⟩
      | false =>
        have HS := Lib.hid (show (freeTo (takenBy xs) (k + 1)).length = (freeTo (takenBy xs) k).length + 1 from by
          rw [freeTo, taken_isIn xs k (by omega) (by omega), hi]
          have : decide (0 < k) = true := by simp; omega
          rw [this]
          simp)
        have hkk : (freeTo (takenBy xs) k).length ≤ 256 := by have := HK.out; omega
        generalize hq : (freeTo (takenBy xs) k).length = q at *
        go_wp2_with fail
        refine (in_any A n c xs k _ hu (by omega)).mono ?_
        rw [hi]
        rintro e w4 ⟨rfl, rfl⟩
        go_wp2_with fail
        refine (in_any A1 n1 c1 _ k _ hr1 (by omega)).mono ?_
        rw [HI.out, hi]
        rintro e w4 ⟨rfl, rfl⟩
        go_wp2
        exact ⟨⟨k + 1, by omega, by omega, by go_num, by rw [HS.out]; go_num, by first | trivial | rfl⟩, by simp [intOf]; omega⟩
    · obtain rfl : k = m := by omega
      have hkl := hr1.len
      rw [hkl]
      go_wp2_with fail
      refine (check_any A1 n1 c1 _ _ hr1 (by omega)).mono ?_
      rw [HC.out]
      rintro e w4 ⟨rfl, rfl⟩
      go_wp2
      go_ret
      exact ⟨rfl, hB1⟩
end Go.Proofs.Ytjidfnogmedgnaa
