/- The walks of the laws FnumBack, FnumMirror, FnumTurns, FnumEdges, FnumOnly. -/
import Derived.Test.YtmfcbjjjehbpkaaLaws
import Derived.Test.YtmfcbjjjehbpkaaOwn
namespace Go.Proofs.Ytmfcbjjjehbpkaa
open Go.RowKit
open Fl (half inf rung neg nan sv)
set_option maxHeartbeats 1000000
set_option maxRecDepth 100000

theorem back_walk (a b : Nat) (ha : Hid (a < 18446744073709551616)) (hb : Hid (b < 18446744073709551616)) (w : World) :
    Calls Try.prog 5 #[.float .f64 a, .float .f64 b] w fun e w' => e = .returned (.bool true) ∧ Below w.heap.size w w' := by
  have h22 := bits_run
  have HV := Lib.hid (show unrank (valN (keyStr (rank a)) 8) = a from by rw [key_val _ (rank_lt a ha.out), unrank_rank a ha.out])
  have HL := Lib.hid (key_less (rank a) (rank b) (rank_lt a ha.out) (rank_lt b hb.out))
  have hs := key_size (rank a)
  go_enter Try.func5, Try.ntmps5
  go_wp2_with fail
  refine (awake_any _).mono ?_
  rintro e w1 ⟨rfl, hB1⟩
  go_wp2_with fail
  refine (key_any a ha _).mono ?_
  rintro e w2 ⟨rfl, hB2⟩
  go_wp2_with fail
  refine (back_any _ _ (key_size _)).mono ?_
  rw [HV.out]
  rintro e w3 ⟨rfl, rfl⟩
  go_wp2_with fail
  refine (key_any a ha _).mono ?_
  rintro e w3 ⟨rfl, hB3⟩
  go_wp2_with fail
  refine (key_any a ha _).mono ?_
  rintro e w4 ⟨rfl, hB4⟩
  go_wp2_with fail
  refine (key_any b hb _).mono ?_
  rintro e w5 ⟨rfl, hB5⟩
  have hl := HL.out
  go_wp2_with fail
  refine (less_any a b ha hb _).mono ?_
  rintro e w6 ⟨rfl, rfl⟩
  go_wp2
  go_ret
  exact ⟨rfl, (((hB1.next hB2).next hB3).next hB4).next hB5⟩

theorem mirror_walk (a b : Nat) (ha : Hid (a < 18446744073709551616)) (hb : Hid (b < 18446744073709551616)) (w : World) :
    Calls Try.prog 8 #[.float .f64 a, .float .f64 b] w fun e w' => e = .returned (.bool true) ∧ Below w.heap.size w w' := by
  cases h1 : (FloatKind.f64.format.order a 0 == some Ordering.gt) with
  | false =>
    go_enter Try.func8, Try.ntmps8
    go_wp2_with fail
    refine (awake_any _).mono ?_
    rintro e w1 ⟨rfl, hB1⟩
    go_wp2
    go_ret
    exact ⟨rfl, hB1⟩
  | true =>
    cases h2 : (FloatKind.f64.format.order b a == some Ordering.gt) with
    | false =>
      go_enter Try.func8, Try.ntmps8
      go_wp2_with fail
      refine (awake_any _).mono ?_
      rintro e w1 ⟨rfl, hB1⟩
      go_wp2
      go_ret
      exact ⟨rfl, hB1⟩
    | true =>
      obtain ⟨n1, _, s1⟩ := gt_parts ha.out (by decide) h1
      obtain ⟨n2, _, s2⟩ := gt_parts hb.out ha.out h2
      rw [sv_zero] at s1
      have r0 : rung a = a % 9223372036854775808 := rfl
      have r1 : rung b = b % 9223372036854775808 := rfl
      have e0 := eh
      have ha' := ha.out
      have hb' := hb.out
      have e : 0 < a ∧ a < b ∧ b < half := by
        rw [sv_nat] at s1 s2
        rw [sv_nat] at s2
        split at s1 <;> split at s2 <;> (try split at s2) <;> omega
      obtain ⟨e1, e2, e3⟩ := e
      have ra : rank a = a + half := by unfold rank; rw [if_pos (by omega)]
      have rb : rank b = b + half := by unfold rank; rw [if_pos (by omega)]
      have rz : rank 0 = half := by decide
      have fa : flip a = a + half := by unfold flip; rw [if_pos (by omega)]
      have fb : flip b = b + half := by unfold flip; rw [if_pos (by omega)]
      have rfa : rank (flip a) = half - 1 - a := by rw [fa]; unfold rank; rw [if_neg (by omega)]; omega
      have rfb : rank (flip b) = half - 1 - b := by rw [fb]; unfold rank; rw [if_neg (by omega)]; omega
      have HA := Lib.hid (flip_lt a ha.out)
      have HB := Lib.hid (flip_lt b hb.out)
      have q1 := Lib.hid (show decide (rank a < rank b) = true from by simp; omega)
      have q2 := Lib.hid (show decide (rank (flip b) < rank (flip a)) = true from by simp; omega)
      have q3 := Lib.hid (show decide (rank (flip a) < rank b) = true from by simp; omega)
      have q4 := Lib.hid (show decide (rank (flip b) < rank a) = true from by simp; omega)
      have q5 := Lib.hid (show decide (rank (flip a) < rank 0) = true from by simp; omega)
      have q6 := Lib.hid (show decide (rank 0 < rank a) = true from by simp; omega)
      have q7 := Lib.hid (show Op.bytesLess (keyStr (rank (flip b))).toList (keyStr (rank (flip a))).toList = true from by
        rw [key_less _ _ (rank_lt _ HB.out) (rank_lt _ HA.out)]; exact q2.out)
      have q8 := Lib.hid (show Op.bytesLess (keyStr (rank a)).toList (keyStr (rank b)).toList = true from by
        rw [key_less _ _ (rank_lt _ ha.out) (rank_lt _ hb.out)]; exact q1.out)
      have hna := neg_run a ha.out
      have hnb := neg_run b hb.out
      clear s1 s2 n1 n2 r0 r1 e0 ha' hb' e1 e2 e3 ra rb rz fa fb rfa rfb
      go_enter Try.func8, Try.ntmps8
      go_wp2_with fail
      refine (awake_any _).mono ?_
      rintro e w1 ⟨rfl, hB1⟩
      go_wp2_with fail
      refine (less_any a b ha hb _).mono ?_
      rw [q1.out]
      rintro e w2 ⟨rfl, rfl⟩
      go_wp2_with fail
      refine (less_any _ _ HB HA _).mono ?_
      rw [q2.out]
      rintro e w2 ⟨rfl, rfl⟩
      go_wp2_with fail
      refine (less_any _ _ HA hb _).mono ?_
      rw [q3.out]
      rintro e w2 ⟨rfl, rfl⟩
      go_wp2_with fail
      refine (less_any _ _ HB ha _).mono ?_
      rw [q4.out]
      rintro e w2 ⟨rfl, rfl⟩
      go_wp2_with fail
      refine (less_any _ _ HA (Lib.hid (by decide)) _).mono ?_
      rw [q5.out]
      rintro e w2 ⟨rfl, rfl⟩
      go_wp2_with fail
      refine (less_any _ _ (Lib.hid (by decide)) ha _).mono ?_
      rw [q6.out]
      rintro e w2 ⟨rfl, rfl⟩
      go_wp2_with fail
      refine (key_any _ HB _).mono ?_
      rintro e w2 ⟨rfl, hB2⟩
      go_wp2_with fail
      refine (key_any _ HA _).mono ?_
      rintro e w3 ⟨rfl, hB3⟩
      have hq7 := q7.out
      go_wp2_with fail
      refine (key_any _ ha _).mono ?_
      rintro e w4 ⟨rfl, hB4⟩
      go_wp2_with fail
      refine (key_any _ hb _).mono ?_
      rintro e w5 ⟨rfl, hB5⟩
      have hq8 := q8.out
      go_wp2
      go_ret
      exact ⟨rfl, (((hB1.next hB2).next hB3).next hB4).next hB5⟩

theorem flip_rank (b : Nat) (h : b < 18446744073709551616) : rank b = 18446744073709551615 - rank (flip b) := by
  unfold flip rank
  have := eh
  split <;> split <;> omega

theorem flip_rung (b : Nat) (h : b < 18446744073709551616) : rung (flip b) = rung b := by
  unfold flip rung half
  split <;> omega

theorem flip_nan (b : Nat) (h : b < 18446744073709551616) : nan (flip b) = nan b := by
  unfold nan
  rw [flip_rung b h]

theorem flip_cls (b : Nat) (h : b < 18446744073709551616) : (nan b = true ∧ cls b = 1 ∧ cls (flip b) = 1) ∨ (2 ≤ cls b ∧ cls b ≤ 7 ∧ cls (flip b) = 9 - cls b) := by
  unfold cls
  rw [flip_nan b h, flip_rung b h]
  have hh : half ≤ flip b ↔ ¬ half ≤ b := by
    unfold flip; have := eh; split <;> omega
  by_cases hn : nan b = true
  · left; simp [hn]
  · right
    simp only [hn, Bool.false_eq_true, if_false, hh]
    have h0 : ¬ (0 : Nat) = inf := by decide
    by_cases h1 : half ≤ b
    · by_cases h2 : rung b = inf
      · simp [h1, h2]
      · by_cases h3 : rung b = 0
        · simp [h1, h3, h0]
        · simp [h1, h2, h3]
    · by_cases h2 : rung b = inf
      · simp [h1, h2]
      · by_cases h3 : rung b = 0
        · simp [h1, h3, h0]
        · simp [h1, h2, h3]

theorem xor_form (b : Nat) (h : b < 18446744073709551616) : (bits .xor .u64 (b : Int) 9223372036854775808).toNat = flip b := by
  rw [show (9223372036854775808 : Int) = ((half : Nat) : Int) from rfl, (bits64 b half h (by decide)).1, Int.toNat_natCast, flip_xor b h]

theorem turns_walk (b : Nat) (hb : Hid (b < 18446744073709551616)) (w : World) :
    Calls Try.prog 7 #[.float .f64 b] w fun e w' => e = .returned (.bool true) ∧ Below w.heap.size w w' := by
  have h22 := bits_run
  have h23 := from_run
  have HX := Lib.hid (xor_form b hb.out)
  have HF := Lib.hid (flip_lt b hb.out)
  have hr1 := flip_rank b hb.out
  have hr2 := rank_lt (flip b) HF.out
  have HR := Lib.hid (show (((rank b : Nat) : Int) == IntKind.u64.wrap (18446744073709551615 - ((rank (flip b) : Nat) : Int))) = true from by
    rw [beq_iff_eq, wrap_u64]; omega)
  clear hr1 hr2
  have c7 : (cls b = 1 ∧ cls (flip b) = 1) ∨ (cls b = 2 ∧ cls (flip b) = 7) ∨ (cls b = 3 ∧ cls (flip b) = 6) ∨ (cls b = 4 ∧ cls (flip b) = 5) ∨ (cls b = 5 ∧ cls (flip b) = 4) ∨ (cls b = 6 ∧ cls (flip b) = 3) ∨ (cls b = 7 ∧ cls (flip b) = 2) := by
    rcases flip_cls b hb.out with h | h <;> omega
  rcases c7 with ⟨h1, h2⟩ | ⟨h1, h2⟩ | ⟨h1, h2⟩ | ⟨h1, h2⟩ | ⟨h1, h2⟩ | ⟨h1, h2⟩ | ⟨h1, h2⟩
  all_goals
    have H1 := Lib.hid h1
    have H2 := Lib.hid h2
    clear h1 h2
    go_enter Try.func7, Try.ntmps7
    go_wp2_with fail
    refine (awake_any _).mono ?_
    rintro e w1 ⟨rfl, hB1⟩
    go_wp2_with fail
    refine (rank_any b hb _).mono ?_
    rw [HX.out]
    rintro e w2 ⟨rfl, rfl⟩
    go_wp2_with fail
    refine (rank_any _ HF _).mono ?_
    rintro e w2 ⟨rfl, rfl⟩
    have hq := HR.out
    go_wp2_with fail
    refine (class_any b hb _).mono ?_
    rw [H1.out]
    rintro e w2 ⟨rfl, rfl⟩
    go_wp2_with fail
    refine (class_any _ HF _).mono ?_
    rw [H2.out]
    rintro e w2 ⟨rfl, rfl⟩
    go_wp2_with fail
    refine (class_any b hb _).mono ?_
    rw [H1.out]
    rintro e w2 ⟨rfl, rfl⟩
  · go_wp2
    go_ret
    exact ⟨rfl, hB1⟩
  all_goals
    go_wp2_with fail
    refine (class_any b hb _).mono ?_
    rw [H1.out]
    rintro e w2 ⟨rfl, rfl⟩
    go_wp2_with fail
    refine (class_any _ HF _).mono ?_
    rw [H2.out]
    rintro e w2 ⟨rfl, rfl⟩
    go_wp2
    go_ret
    exact ⟨rfl, hB1⟩

def low : Nat := 18442240474082181120
theorem edge_facts (b : Nat) (hb : b < 18446744073709551616) (hn : nan b = false) :
    (FloatKind.f64.format.order b b == some Ordering.eq) = true ∧ 2 ≤ cls b ∧ cls b ≤ 7 ∧
    (FloatKind.f64.format.order b 18442240474082181120 == some Ordering.eq) = decide (cls b = 2) ∧ (FloatKind.f64.format.order b 9218868437227405312 == some Ordering.eq) = decide (cls b = 7) ∧
    decide (rank 18442240474082181120 < rank b) = decide (cls b ≠ 2) ∧ decide (rank b < rank 9218868437227405312) = decide (cls b ≠ 7) ∧
    (FloatKind.f64.format.order b 0 == some Ordering.gt) = decide (6 ≤ cls b) ∧ (FloatKind.f64.format.order b 0 == some Ordering.lt) = decide (cls b ≤ 3) := by
  have h0 := eh
  have h1 := einf
  have hrl : rank 18442240474082181120 = 4503599627370495 := by decide
  have hrh : rank 9218868437227405312 = 18442240474082181120 := by decide
  have hle : rung b ≤ inf := by
    have := hn
    unfold nan at this
    simpa using this
  have hsl : sv 18442240474082181120 = -9218868437227405312 := by decide
  have hsh : sv 9218868437227405312 = 9218868437227405312 := by decide
  have nl : nan 18442240474082181120 = false := by decide
  have nh : nan 9218868437227405312 = false := by decide
  have hru : rung b = b % 9223372036854775808 := rfl
  rw [(ordB b b hb hb).2.2.1, (ordB b 18442240474082181120 hb (by decide)).2.2.1, (ordB b 9218868437227405312 hb (by decide)).2.2.1,
    (ordB b 0 hb (by decide)).1, (ordB b 0 hb (by decide)).2.1, hn, nl, nh, nan_zero, sv_zero, hsl, hsh, hrl, hrh, sv_nat]
  have hc : cls b = if half ≤ b then (if rung b = inf then 2 else if rung b = 0 then 4 else 3) else (if rung b = inf then 7 else if rung b = 0 then 5 else 6) := by
    unfold cls; simp [hn]
  have hr : rank b = if b < half then b + half else 18446744073709551615 - b := rfl
  rw [hc, hr]
  simp only [Bool.not_false, Bool.true_and, decide_eq_decide, decide_true, true_and]
  by_cases g1 : half ≤ b
  · have g1' : ¬ b < half := by omega
    by_cases g2 : rung b = inf
    · simp only [if_pos g1, if_neg g1', if_pos g2]; refine ⟨?_, ?_, ?_, ?_, ?_, ?_, ?_, ?_⟩ <;> first | omega | (simp only [iff_true]; omega)
    · by_cases g3 : rung b = 0
      · simp only [if_pos g1, if_neg g1', if_neg g2, if_pos g3]; refine ⟨?_, ?_, ?_, ?_, ?_, ?_, ?_, ?_⟩ <;> omega
      · simp only [if_pos g1, if_neg g1', if_neg g2, if_neg g3]; refine ⟨?_, ?_, ?_, ?_, ?_, ?_, ?_, ?_⟩ <;> omega
  · have g1' : b < half := by omega
    by_cases g2 : rung b = inf
    · simp only [if_neg g1, if_pos g1', if_pos g2]; refine ⟨?_, ?_, ?_, ?_, ?_, ?_, ?_, ?_⟩ <;> first | omega | (simp only [iff_true]; omega)
    · by_cases g3 : rung b = 0
      · simp only [if_neg g1, if_pos g1', if_neg g2, if_pos g3]; refine ⟨?_, ?_, ?_, ?_, ?_, ?_, ?_, ?_⟩ <;> omega
      · simp only [if_neg g1, if_pos g1', if_neg g2, if_neg g3]; refine ⟨?_, ?_, ?_, ?_, ?_, ?_, ?_, ?_⟩ <;> omega

theorem nan_facts (b : Nat) (hb : b < 18446744073709551616) (hn : nan b = true) :
    (FloatKind.f64.format.order b b == some Ordering.eq) = false ∧ cls b = 1 ∧ decide (rank b < rank 18442240474082181120) = !decide (rank 9218868437227405312 < rank b) := by
  have h0 := eh
  have h1 := einf
  have hrl : rank 18442240474082181120 = 4503599627370495 := by decide
  have hrh : rank 9218868437227405312 = 18442240474082181120 := by decide
  have hlt : inf < rung b := by
    have := hn
    unfold nan at this
    simpa using this
  have hru : rung b = b % 9223372036854775808 := rfl
  refine ⟨?_, by simp [cls, hn], ?_⟩
  · rw [(ordB b b hb hb).2.2.1, hn]; rfl
  · rw [hrl, hrh]
    unfold rank
    rw [Bool.eq_iff_iff]
    simp only [decide_eq_true_eq, Bool.not_eq_true', decide_eq_false_iff_not]
    by_cases g1 : b < half
    · rw [if_pos g1]; omega
    · rw [if_neg g1]; omega

theorem edges_walk (b : Nat) (hb : Hid (b < 18446744073709551616)) (w : World) :
    Calls Try.prog 9 #[.float .f64 b] w fun e w' => e = .returned (.bool true) ∧ Below w.heap.size w w' := by
  cases hn : nan b with
  | true =>
    obtain ⟨f1, f2, f3⟩ := nan_facts b hb.out hn
    have H2 := Lib.hid f2
    have H3 := Lib.hid f3
    clear f2 f3 hn
    go_enter Try.func9, Try.ntmps9
    go_wp2_with fail
    refine (awake_any _).mono ?_
    rintro e w1 ⟨rfl, hB1⟩
    go_wp2_with fail
    refine (inf_any _).mono ?_
    rintro e w2 ⟨rfl, rfl⟩
    go_wp2_with fail
    refine (inf_pos _).mono ?_
    rintro e w2 ⟨rfl, rfl⟩
    go_wp2_with fail
    refine (copysign_any _).mono ?_
    rintro e w2 ⟨rfl, rfl⟩
    go_wp2_with fail
    refine (class_any b hb _).mono ?_
    rw [H2.out]
    rintro e w2 ⟨rfl, rfl⟩
    go_wp2_with fail
    refine (less_any _ _ hb (Lib.hid (by decide)) _).mono ?_
    rw [H3.out]
    rintro e w2 ⟨rfl, rfl⟩
    go_wp2_with fail
    refine (less_any _ _ (Lib.hid (by decide)) hb _).mono ?_
    generalize decide (rank 9218868437227405312 < rank b) = x
    rintro e w2 ⟨rfl, rfl⟩
    cases x
    · go_wp2
      go_ret
      exact ⟨rfl, hB1⟩
    · go_wp2
      go_ret
      exact ⟨rfl, hB1⟩
  | false =>
    obtain ⟨f1, g1, g2, f2, f3, f4, f5, f6, f7⟩ := edge_facts b hb.out hn
    have c6 : cls b = 2 ∨ cls b = 3 ∨ cls b = 4 ∨ cls b = 5 ∨ cls b = 6 ∨ cls b = 7 := by omega
    clear g1 g2 hn
    have z1 := Lib.hid (show decide (rank 9223372036854775808 < rank 0) = true from by decide)
    have z2 := Lib.hid (show ((rank 0 : Nat) : Int) = 9223372036854775808 from by decide)
    have z3 := Lib.hid (show ((rank 9223372036854775808 : Nat) : Int) = 9223372036854775807 from by decide)
    rcases c6 with h | h | h | h | h | h
    all_goals
      have H2 := Lib.hid h
      rw [h] at f2 f3 f4 f5 f6 f7
      clear h
      simp only [Nat.reduceEqDiff, decide_true, decide_false, ne_eq, not_true_eq_false, not_false_eq_true, Nat.reduceLeDiff] at f2 f3 f4 f5 f6 f7
      have H4 := Lib.hid f4
      have H5 := Lib.hid f5
      clear f4 f5
      go_enter Try.func9, Try.ntmps9
      go_wp2_with fail
      refine (awake_any _).mono ?_
      rintro e w1 ⟨rfl, hB1⟩
      go_wp2_with fail
      refine (inf_any _).mono ?_
      rintro e w2 ⟨rfl, rfl⟩
      go_wp2_with fail
      refine (inf_pos _).mono ?_
      rintro e w2 ⟨rfl, rfl⟩
      go_wp2_with fail
      refine (copysign_any _).mono ?_
      rintro e w2 ⟨rfl, rfl⟩
      go_wp2_with fail
    -- f is -Inf
    · refine (less_any _ _ hb (Lib.hid (by decide)) _).mono ?_
      rw [H5.out]
      rintro e w2 ⟨rfl, rfl⟩
      go_wp2_with fail
      refine (less_any _ _ (Lib.hid (by decide)) (Lib.hid (by decide)) _).mono ?_
      rw [z1.out]
      rintro e w2 ⟨rfl, rfl⟩
      go_wp2_with fail
      refine (rank_any _ (Lib.hid (by decide)) _).mono ?_
      rw [z2.out]
      rintro e w2 ⟨rfl, rfl⟩
      go_wp2_with fail
      refine (rank_any _ (Lib.hid (by decide)) _).mono ?_
      rw [z3.out]
      rintro e w2 ⟨rfl, rfl⟩
      go_wp2_with (first | (go_at_call 13; refine (class_any b hb _).mono ?_; rw [H2.out]; rintro e w2 ⟨rfl, rfl⟩))
      go_ret
      exact ⟨rfl, hB1⟩
    all_goals
      refine (less_any _ _ (Lib.hid (by decide)) hb _).mono ?_
      rw [H4.out]
      rintro e w2 ⟨rfl, rfl⟩
      go_wp2_with fail
    rotate_left 4
    · refine (less_any _ _ (Lib.hid (by decide)) (Lib.hid (by decide)) _).mono ?_
      rw [z1.out]
      rintro e w2 ⟨rfl, rfl⟩
      go_wp2_with fail
      refine (rank_any _ (Lib.hid (by decide)) _).mono ?_
      rw [z2.out]
      rintro e w2 ⟨rfl, rfl⟩
      go_wp2_with fail
      refine (rank_any _ (Lib.hid (by decide)) _).mono ?_
      rw [z3.out]
      rintro e w2 ⟨rfl, rfl⟩
      go_wp2_with (first | (go_at_call 13; refine (class_any b hb _).mono ?_; rw [H2.out]; rintro e w2 ⟨rfl, rfl⟩))
      go_ret
      exact ⟨rfl, hB1⟩
    all_goals
      refine (less_any _ _ hb (Lib.hid (by decide)) _).mono ?_
      rw [H5.out]
      rintro e w2 ⟨rfl, rfl⟩
      go_wp2_with fail
      refine (less_any _ _ (Lib.hid (by decide)) (Lib.hid (by decide)) _).mono ?_
      rw [z1.out]
      rintro e w2 ⟨rfl, rfl⟩
      go_wp2_with fail
      refine (rank_any _ (Lib.hid (by decide)) _).mono ?_
      rw [z2.out]
      rintro e w2 ⟨rfl, rfl⟩
      go_wp2_with fail
      refine (rank_any _ (Lib.hid (by decide)) _).mono ?_
      rw [z3.out]
      rintro e w2 ⟨rfl, rfl⟩
      go_wp2_with (first | (go_at_call 13; refine (class_any b hb _).mono ?_; rw [H2.out]; rintro e w2 ⟨rfl, rfl⟩))
      go_ret
      exact ⟨rfl, hB1⟩
end Go.Proofs.Ytmfcbjjjehbpkaa
