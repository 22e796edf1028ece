/- The walk of AllocParts. -/
import Derived.Test.YtjidfnogmedgnaaPlain
import Derived.Test.YtjidfnogmedgnaaTells
import Derived.Deep.QuietTactic
import Derived.BigQuiet
namespace Go.Proofs.Ytjidfnogmedgnaa
open Go.RowKit
set_option maxHeartbeats 1000000
set_option maxRecDepth 100000

theorem quiet_left {P : Program} {f : FuncId} {args : Array Value} {w : World} {n : Nat} {v : Value}
    (h : Calls P f args (w.drewN n) fun e w' => e = .returned v ∧ w.drewN n = w') : Calls P f args (w.drewN n) fun e w'' => e = .returned v ∧ ∃ m, w'' = w.drewN m :=
  h.mono fun _ _ ⟨he, hm⟩ => ⟨he, n, hm.symm⟩
theorem RI.drewN {w : World} {A : Option Addr} {n : Nat} {xs : List Int} (h : RI w A n xs) (k : Nat) : RI (w.drewN k) A n xs := h.below ((Below.refl _ _).drewN k)

theorem numbers_quiet (A : Option Addr) (n c : Nat) (xs : List Int) (B : Option Addr) (m d : Nat) (ys : List Int) (w : World) (h : RI w A n xs) (h' : RI w B m ys) (hn : n ≤ 1000000000) (hm : m ≤ 1000000000) :
    Calls Try.prog 15 #[.slice A n c, .slice B m d] w fun e w' => e = .returned (.bool (decide (xs = ys))) ∧ ∃ q, w' = w.drewN q := by
  have HR := Lib.hid h
  have HR' := Lib.hid h'
  clear h h'
  by_cases hnm : n = m
  · subst hnm
    go_enter Try.func15, Try.ntmps15
    go_wp2
    go_loopw [5] (fun i wr => ∃ k : Nat, k ≤ n ∧ i = .int .i64 k ∧ Hid (xs = ys ↔ xs.drop k = ys.drop k) ∧ Hid (∃ q, wr = w.drewN q)) (fun i _ => n - (intOf i).toNat)
    case atStart => exact ⟨0, by omega, rfl, Lib.hid Iff.rfl, Lib.hid ⟨0, rfl⟩⟩
    case round =>
      obtain ⟨k, hk, rfl, HC, HQ⟩ := hrel
      by_cases hlt : k < n
      · obtain ⟨ad, y, rfl, hb, hx, hc⟩ := (show RI wr A n xs by obtain ⟨q, rfl⟩ := HQ.out; exact HR.out.drewN q).at_ hlt
        obtain ⟨ad', z, rfl, hb', hx', hc'⟩ := (show RI wr B n ys by obtain ⟨q, rfl⟩ := HQ.out; exact HR'.out.drewN q).at_ hlt
        have HS := Lib.hid (show (xs.drop k = ys.drop k) ↔ (y = z ∧ xs.drop (k + 1) = ys.drop (k + 1)) from by rw [drop_step hx, drop_step hx', List.cons.injEq])
        clear hx hx'
        cases hyz : decide (y = z) with
        | false =>
          have hq : (y == z) = false := by simpa using hyz
          go_wp2_with fail
          go_quiet (fail)
          go_wp2
          go_ret
          refine ⟨ret_bool ?_, by obtain ⟨q, rfl⟩ := HQ.out; exact ⟨_, World.drewN_drewN _ _ _⟩⟩
          have h1 : ¬ (xs = ys) := by rw [HC.out, HS.out]; simp at hyz; simp [hyz]
          simp [h1]
        | true =>
          have hq : (y == z) = true := by simpa using hyz
          go_wp2_with fail
          go_quiet (fail)
          go_wp2
          refine ⟨⟨k + 1, by omega, by go_num, Lib.hid ?_, Lib.hid (by obtain ⟨q, rfl⟩ := HQ.out; exact ⟨_, World.drewN_drewN _ _ _⟩)⟩, by simp [intOf]; omega⟩
          rw [HC.out, HS.out]
          simp at hyz
          simp [hyz]
      · have HN := Lib.hid (show xs.drop k = ys.drop k from by rw [List.drop_eq_nil_of_le (by rw [HR.out.len]; omega), List.drop_eq_nil_of_le (by rw [HR'.out.len]; omega)])
        go_wp2
        go_ret
        exact ⟨ret_bool (by have := HC.out.2 HN.out; simp [this]), HQ.out⟩
  · have HN := Lib.hid (show ¬ (xs = ys) from by intro h; apply hnm; rw [← HR.out.len, ← HR'.out.len, h])
    go_enter Try.func15, Try.ntmps15
    go_wp2
    go_ret
    exact ⟨ret_bool (by have := HN.out; simp [this]), 0, rfl⟩

theorem take_ok {xs : List Int} (hc : chk xs = true) {k : Nat} (hk : k ≤ xs.length) : takeOf xs k = (xs.take k, xs.drop k, 0) := by
  unfold takeOf
  rw [if_neg (by omega), if_neg (by simp [hc]), if_neg (by omega), Int.toNat_natCast]
theorem take_full {xs : List Int} (hc : chk xs = true) {k : Nat} (hk : xs.length < k) : takeOf xs k = ([], xs, 100) := by
  unfold takeOf
  rw [if_neg (by omega), if_neg (by simp [hc]), if_pos (by omega)]

theorem parts_all (A : Option Addr) (n c : Nat) (xs : List Int) (a b : Nat) (w : World) (h : RI w A n xs) (hnc : n ≤ c) (hn : n ≤ 9223372036854775807) (ha : a < 256) (hb : b < 256) :
    Calls Try.prog 7 #[.slice A n c, .int .u8 a, .int .u8 b] w fun e w' => e = .returned (.bool true) ∧ Below w.heap.size w w' := by
  have HR := Lib.hid h
  clear h
  by_cases h1 : 1000 < n
  · go_enter Try.func7, Try.ntmps7
    go_wp2_with fail
    refine (awake_any w).mono ?_
    rintro e w1 ⟨rfl, hB1⟩
    go_wp2
    go_ret
    exact ⟨rfl, hB1⟩
  clear hn
  cases hc : chk xs with
  | false =>
    go_enter Try.func7, Try.ntmps7
    go_wp2_with fail
    refine (awake_any w).mono ?_
    rintro e w1 ⟨rfl, hB1⟩
    go_wp2_with fail
    refine (check_any A n c xs _ (HR.out.below hB1) (by omega)).mono ?_
    rw [hc]
    rintro e w2 ⟨rfl, rfl⟩
    go_wp2
    go_ret
    exact ⟨rfl, hB1⟩
  | true =>
    have HC := Lib.hid hc
    have HL := Lib.hid HR.out.len
    clear hc
    by_cases han : n < a
    · have HT1 := Lib.hid (take_full HC.out (k := a) (by rw [HL.out]; exact han))
      have HT3 := Lib.hid (take_full HC.out (k := a + b) (by rw [HL.out]; omega))
      obtain ⟨⟨l1, l2, e2⟩, HT2⟩ : ∃ r, Hid (takeOf xs b = r) := ⟨_, Lib.hid rfl⟩
      go_enter Try.func7, Try.ntmps7
      go_wp2_with fail
      refine (awake_any w).mono ?_
      rintro e w1 ⟨rfl, hB1⟩
      have hu := HR.out.below hB1
      go_wp2_with fail
      refine (check_any A n c xs _ hu (by omega)).mono ?_
      rw [HC.out]
      rintro e w2 ⟨rfl, rfl⟩
      go_wp2_with fail
      refine (take_any A n c xs a _ hu (by omega) hnc).mono ?_
      rw [HT1.out]
      rintro e w2 ⟨A1, n1, c1, A2, n2, c2, rfl, hc1, hc2, hr1, hr2, hB2⟩
      obtain rfl : n2 = n := by rw [← hr2.len, HL.out]
      replace hu := hu.below hB2
      replace hB1 := hB1.next hB2
      clear hB2
      go_wp2_with fail
      refine (take_any A2 n2 c2 xs b _ hr2 (by omega) hc2).mono ?_
      rw [HT2.out]
      rintro e w3 ⟨A3, n3, c3, A4, n4, c4, rfl, hc3, hc4, hr3, hr4, hB2⟩
      replace hu := hu.below hB2
      replace hB1 := hB1.next hB2
      clear hB2
      go_wp2_with fail
      refine (take_any A n2 c xs ((a + b : Nat) : Int) _ hu (by omega) hnc).mono ?_
      rw [HT3.out]
      rintro e w4 ⟨A5, n5, c5, A6, n6, c6, rfl, hc5, hc6, hr5, hr6, hB2⟩
      obtain rfl : n6 = n2 := by rw [← hr6.len, HL.out]
      replace hu := hu.below hB2
      replace hB1 := hB1.next hB2
      clear hB2
      go_wp2_with fail
      refine (numbers_any A6 n6 c6 xs A n6 c xs _ hr6 hu (by omega) (by omega)).mono ?_
      rw [show decide (xs = xs) = true from by simp]
      rintro e w5 ⟨rfl, hB2⟩
      go_wp2
      go_ret
      exact ⟨rfl, hB1.next hB2⟩
    · have HT1 := Lib.hid (take_ok HC.out (k := a) (by rw [HL.out]; omega))
      by_cases hab : n < a + b
      · have HT3 := Lib.hid (take_full HC.out (k := a + b) (by rw [HL.out]; omega))
        have HT2 := Lib.hid (take_full (chk_drop HC.out a) (k := b) (by rw [List.length_drop, HL.out]; omega))
        go_enter Try.func7, Try.ntmps7
        go_wp2_with fail
        refine (awake_any w).mono ?_
        rintro e w1 ⟨rfl, hB1⟩
        have hu := HR.out.below hB1
        go_wp2_with fail
        refine (check_any A n c xs _ hu (by omega)).mono ?_
        rw [HC.out]
        rintro e w2 ⟨rfl, rfl⟩
        go_wp2_with fail
        refine (take_any A n c xs a _ hu (by omega) hnc).mono ?_
        rw [HT1.out]
        rintro e w2 ⟨A1, n1, c1, A2, n2, c2, rfl, hc1, hc2, hr1, hr2, hB2⟩
        obtain rfl : n2 = n - a := by rw [← hr2.len, List.length_drop, HL.out]
        replace hu := hu.below hB2
        replace hB1 := hB1.next hB2
        clear hB2
        go_wp2_with fail
        refine (take_any A2 (n - a) c2 (xs.drop a) b _ hr2 (by omega) hc2).mono ?_
        rw [HT2.out]
        rintro e w3 ⟨A3, n3, c3, A4, n4, c4, rfl, hc3, hc4, hr3, hr4, hB2⟩
        replace hu := hu.below hB2
        replace hB1 := hB1.next hB2
        clear hB2
        go_wp2_with fail
        refine (take_any A n c xs ((a + b : Nat) : Int) _ hu (by omega) hnc).mono ?_
        rw [HT3.out]
        rintro e w4 ⟨A5, n5, c5, A6, n6, c6, rfl, hc5, hc6, hr5, hr6, hB2⟩
        obtain rfl : n6 = n := by rw [← hr6.len, HL.out]
        replace hu := hu.below hB2
        replace hB1 := hB1.next hB2
        clear hB2
        go_wp2_with fail
        refine (numbers_any A6 n6 c6 xs A n6 c xs _ hr6 hu (by omega) (by omega)).mono ?_
        rw [show decide (xs = xs) = true from by simp]
        rintro e w5 ⟨rfl, hB2⟩
        go_wp2
        go_ret
        exact ⟨rfl, hB1.next hB2⟩
      · obtain ⟨s, HS⟩ : ∃ s, Hid (s = a + b) := ⟨_, Lib.hid rfl⟩
        have hsn : s ≤ n := by have := HS.out; omega
        have has : a ≤ s := by have := HS.out; omega
        have HB : Hid (xs.take a ++ (xs.drop a).take b = xs.take s) := Lib.hid (by rw [HS.out, List.take_add])
        have HD : Hid ((xs.drop a).drop b = xs.drop s) := Lib.hid (by rw [HS.out, List.drop_drop])
        have HT3 := Lib.hid (take_ok HC.out (k := s) (by rw [HL.out]; omega))
        have HT2 := Lib.hid (take_ok (chk_drop HC.out a) (k := b) (by rw [List.length_drop, HL.out]; omega))
        have HZ := Lib.hid (show (((a : Nat) : Int) + ((b : Nat) : Int)) = (s : Int) from by have := HS.out; omega)
        obtain ⟨i0, hi0, hz0, hz1, hz2⟩ := info_parts int_info
        go_enter Try.func7, Try.ntmps7
        go_wp2_with fail
        refine (awake_any w).mono ?_
        rintro e w1 ⟨rfl, hB1⟩
        have hu := HR.out.below hB1
        go_wp2_with fail
        refine (check_any A n c xs _ hu (by omega)).mono ?_
        rw [HC.out]
        rintro e w2 ⟨rfl, rfl⟩
        go_wp2_with fail
        refine (take_any A n c xs a _ hu (by omega) hnc).mono ?_
        rw [HT1.out]
        rintro e w2 ⟨A1, n1, c1, A2, n2, c2, rfl, hc1, hc2, hr1, hr2, hB2⟩
        obtain rfl : n1 = a := by rw [← hr1.len, List.length_take, HL.out]; omega
        obtain rfl : n2 = n - n1 := by rw [← hr2.len, List.length_drop, HL.out]
        replace hu := hu.below hB2
        replace hB1 := hB1.next hB2
        clear hB2
        go_wp2_with fail
        refine (take_any A2 (n - n1) c2 (xs.drop n1) b _ hr2 (by omega) hc2).mono ?_
        rw [HT2.out]
        rintro e w3 ⟨A3, n3, c3, A4, n4, c4, rfl, hc3, hc4, hr3, hr4, hB2⟩
        obtain rfl : n3 = b := by rw [← hr3.len, List.length_take, List.length_drop, HL.out]; have := HS.out; omega
        obtain rfl : n4 = n - s := by rw [← hr4.len, HD.out, List.length_drop, HL.out]
        replace hr4 : RI w3 A4 (n - s) (xs.drop s) := by have := hr4; rw [HD.out] at this; exact this
        replace hu := hu.below hB2
        replace hr1 := hr1.below hB2
        replace hB1 := hB1.next hB2
        clear hB2 hr2
        go_wp2_with fail
        rw [HZ.out]
        refine (take_any A n c xs (s : Int) _ hu (by omega) hnc).mono ?_
        rw [HT3.out]
        rintro e w4 ⟨A5, n5, c5, A6, n6, c6, rfl, hc5, hc6, hr5, hr6, hB2⟩
        obtain rfl : n5 = s := by rw [← hr5.len, List.length_take, HL.out]; omega
        obtain rfl : n6 = n - n5 := by rw [← hr6.len, List.length_drop, HL.out]
        replace hr1 := hr1.below hB2
        replace hr3 := hr3.below hB2
        replace hr4 := hr4.below hB2
        replace hB1 := hB1.next hB2
        clear hB2 hu
        go_wp2_with (first
          | (at_builtin
             refine wpList_append_any _ rfl (.tmp 71) (.tmp 72) _ rfl w4.heap.size 3 i0 _ 1 8 Try.underlying22 hi0 hz0 hz1 hz2 rfl (by omega) _ 0 [] rfl (owns_empty w4 3 1) _ A1 n1 c1 (ints (xs.take n1)) rfl (hr1.below ((Below.refl _ _).alloc (Nat.le_refl _) _)) (ints_one _) (by simp only [maxLen]; omega) (by omega) (by simp) ?_
             intro v2 w5 hown2 hg2 hat2
             have hB5 : Below w4.heap.size w4 w5 := ((Below.refl _ _).alloc (Nat.le_refl _) (.cells #[] 3)).grown hg2 ((Below.refl _ _).alloc (Nat.le_refl _) _).size (fun k hk => own_ge (owns_empty w4 3 1) hk)
             have HO2 := Lib.hid hown2
             clear hown2)
          | (at_builtin
             refine wpList_append_any _ rfl (.tmp 73) (.tmp 74) _ rfl w4.heap.size 3 i0 _ 1 8 Try.underlying22 hi0 hz0 hz1 hz2 rfl (by omega) _ _ _ rfl HO2.out _ A3 n3 c3 (ints ((xs.drop n1).take n3)) rfl (hr3.below hB5) (ints_one _) (by simp only [maxLen]; omega) (by omega) hB5.size ?_
             intro v3 w6 hown3 hg3 hat3
             rw [List.nil_append, ← List.map_append, HB.out, show 0 + n1 + n3 = n5 from by have := HS.out; omega] at hown3
             have hB6 := hB5.grown hg3 hB5.size (fun k hk => own_ge HO2.out hk)
             obtain ⟨A7, c7, rfl, hc7, hr7⟩ := own_cap hown3))
        replace hr4 := hr4.below hB6
        replace hr5 := hr5.below hB6
        replace hr6 := hr6.below hB6
        replace hB1 := hB1.next hB6
        have hk1 := chk_take HC.out n5
        have hk2 := chk_drop HC.out n5
        have HK1 := Lib.hid hk1
        have HK2 := Lib.hid hk2
        clear hk1 hk2
        have hd1 : decide (xs.take n5 = xs.take n5) = true := by simp
        have hd2 : decide (xs.drop n5 = xs.drop n5) = true := by simp
        have HN1 : Hid (∀ q, Calls Try.prog 15 #[.slice A5 n5 c5, .slice A7 n5 c7] (w6.drewN q) fun e w' => e = .returned (.bool true) ∧ ∃ m, w' = w6.drewN m) := Lib.hid fun q => by
          have := numbers_quiet A5 n5 c5 (xs.take n5) A7 n5 c7 (xs.take n5) (w6.drewN q) (hr5.drewN q) (hr7.drewN q) (by omega) (by omega)
          rw [hd1] at this
          exact Calls.quiet_of this
        have HN2 : Hid (∀ q, Calls Try.prog 15 #[.slice A4 (n - n5) c4, .slice A6 (n - n5) c6] (w6.drewN q) fun e w' => e = .returned (.bool true) ∧ ∃ m, w' = w6.drewN m) := Lib.hid fun q => by
          have := numbers_quiet A4 (n - n5) c4 (xs.drop n5) A6 (n - n5) c6 (xs.drop n5) (w6.drewN q) (hr4.drewN q) (hr6.drewN q) (by omega) (by omega)
          rw [hd2] at this
          exact Calls.quiet_of this
        have HN3 : Hid (∀ q, Calls Try.prog 16 #[.slice A7 n5 c7] (w6.drewN q) fun e w' => e = .returned (.bool true) ∧ ∃ m, w' = w6.drewN m) := Lib.hid fun q => by
          have := check_any A7 n5 c7 (xs.take n5) (w6.drewN q) (hr7.drewN q) (by omega)
          rw [HK1.out] at this
          exact quiet_left this
        have HN4 : Hid (∀ q, Calls Try.prog 16 #[.slice A4 (n - n5) c4] (w6.drewN q) fun e w' => e = .returned (.bool true) ∧ ∃ m, w' = w6.drewN m) := Lib.hid fun q => by
          have := check_any A4 (n - n5) c4 (xs.drop n5) (w6.drewN q) (hr4.drewN q) (by omega)
          rw [HK2.out] at this
          exact quiet_left this
        clear hd1 hd2
        by_cases hs0 : n5 = 0
        · subst hs0
          go_quiet (first
            | (go_at_call_of 15 (Value.slice A5 0 c5); exact HN1.out _)
            | (go_at_call_of 15 (Value.slice A4 n c4); exact HN2.out _)
            | (go_at_call_of 16 (Value.slice A7 0 c7); exact HN3.out _)
            | (go_at_call_of 16 (Value.slice A4 n c4); exact HN4.out _))
          go_wp2
          go_ret
          exact ⟨rfl, hB1.drewN _⟩
        · obtain ⟨r, HRR⟩ : ∃ r, Hid (r = n - n5) := ⟨_, Lib.hid rfl⟩
          rw [← HRR.out] at hr4 hr6 HN2 HN4
          rw [← HRR.out]
          by_cases hr0 : r = 0
          · subst hr0
            have hs1 : ((n5 : Int) == 0) = false := by simp; omega
            clear hz0 hz1 hz2 hi0 hg2 hat2 hg3 hat3 HO2 hB5 hB6 HT1 HT2 HT3 hr1 hr3 hr4 hr5 hr6 hr7 hown3 HR HC HL HB HD HZ HS HK1 HK2 hc1 hc2 hc3 hc4 hc5 hc6 hc7
            go_quiet (first
              | (go_at_call_of 15 (Value.slice A5 n5 c5); exact HN1.out _)
              | (go_at_call_of 15 (Value.slice A4 0 c4); exact HN2.out _)
              | (go_at_call_of 16 (Value.slice A7 n5 c7); exact HN3.out _)
              | (go_at_call_of 16 (Value.slice A4 0 c4); exact HN4.out _))
            go_wp2
            go_ret
            exact ⟨rfl, hB1.drewN _⟩
          · obtain ⟨n0, HN0⟩ : ∃ n0, Hid (n5 = n0 + 1) := ⟨n5 - 1, Lib.hid (by omega)⟩
            obtain ⟨ad, y, rfl, hb1, hx1, hcell1⟩ := hr7.at_ (show n0 < n5 by have := HN0.out; omega)
            obtain ⟨ad2, z, rfl, hb2, hx2, hcell2⟩ := hr4.at_ (show 0 < r by omega)
            have hyz : y < z := by
              refine ((chk_iff _).1 HC.out).2 n0 n5 y z (by have := HN0.out; omega) ?_ ?_
              · rw [List.getElem?_take] at hx1
                split at hx1
                · exact hx1
                · cases hx1
              · rw [List.getElem?_drop] at hx2
                simpa using hx2
            clear hx1 hx2
            have hcell2' : w6.cell? ad2 = some (.int .i64 z) := by rw [← hcell2]; unfold Addr.add; split <;> simp_all
            have hw1 : IntKind.i64.wrap ((n5 : Int) - 1) = (n0 : Int) := by have := HN0.out; rw [IntWalk.i64_in _ (by omega)]; omega
            have hn05 : n0 < n5 := by have := HN0.out; omega
            have hq1 : decide (y < z) = true := by simpa using hyz
            clear hcell2
            have hs1 : ((n5 : Int) == 0) = false := by simp; omega
            have hs2 : ((r : Int) == 0) = false := by simp; omega
            clear hz0 hz1 hz2 hi0 hg2 hat2 hg3 hat3 HO2 hB5 hB6 HT1 HT2 HT3 hr1 hr3 hr4 hr5 hr6 hr7 hown3 HR HC HL HB HD HZ HS HK1 HK2 hc1 hc2 hc3 hc4 hc5 hc6 hc7 HN0 HRR
            go_quiet (first
              | (go_at_call_of 15 (Value.slice A5 n5 c5); exact HN1.out _)
              | (go_at_call_of 15 (Value.slice (some ad2) r c4); exact HN2.out _)
              | (go_at_call_of 16 (Value.slice (some ad) n5 c7); exact HN3.out _)
              | (go_at_call_of 16 (Value.slice (some ad2) r c4); exact HN4.out _))
            go_wp2
            go_ret
            exact ⟨rfl, hB1.drewN _⟩
end Go.Proofs.Ytjidfnogmedgnaa
