/- The walks of the law FnumOnly and of the reference's Key. -/
import Derived.Test.YtmfcbjjjehbpkaaLaws
import Derived.Test.YtmfcbjjjehbpkaaOwn
import Derived.Deep.RegionHeld3
namespace Go.Proofs.Ytmfcbjjjehbpkaa
open Go.RowKit
open Fl (half inf rung neg nan sv)
set_option maxHeartbeats 1000000
set_option maxRecDepth 100000

theorem byte_info : (Try.prog.info? 5).map (fun i => (i.zero, i.size, i.bytes)) = some (some (.int .u8 0), 1, 1) := by kernel_rfl

/-- The lowest bytes of a number, the highest of these first. -/
def lowBytes (u : Nat) : Nat → List Value
  | 0 => []
  | n + 1 => .int .u8 (((u / 256 ^ n % 256 : Nat) : Int)) :: lowBytes u n
theorem lowBytes_one (u n : Nat) : ∀ v ∈ lowBytes u n, v.oneCell' = true := by
  induction n with
  | zero => intro v hv; cases hv
  | succ n ih =>
    intro v hv
    rcases List.mem_cons.1 hv with rfl | h
    · rfl
    · exact ih v h
theorem lowBytes_eight (u : Nat) : lowBytes u 8 = (keyInts u).map (Value.int .u8) := by
  simp only [lowBytes, keyInts, List.range_succ, List.range_zero, List.nil_append, List.cons_append, List.map_cons, List.map_nil]

theorem own_form {w : World} {base e n : Nat} {v : Value} {xs : List Value} (h : w.ownsRow base e 1 v n xs) : ∃ A c, v = .slice A n c ∧ Reads w w.heap.size 1 A n xs := by
  rcases h.2 with ⟨rfl, rfl⟩ | ⟨g, cap, cur, rfl, _⟩
  · exact ⟨none, 0, rfl, Reads.of_own h⟩
  · exact ⟨_, cap, rfl, Reads.of_own h⟩
theorem own_ge {w : World} {base e size n : Nat} {v : Value} {xs : List Value} (h : w.ownsRow base e size v n xs) {k : Nat} (hk : v.ownBlock = some k) : base ≤ k := by
  rcases h.2 with ⟨rfl, _⟩ | ⟨g, cap, cur, rfl, hg, _⟩
  · simp [Value.ownBlock] at hk
  · simp [Value.ownBlock] at hk
    omega

/-- The slice reads as a key's bytes. -/
def HasKey (w : World) (ad : Addr) (n : Nat) : Prop := ad.block < w.heap.size ∧ ∀ j u, ((keyInts n).map (Value.int .u8))[j]? = some u → w.cell? (ad.add j) = some u
theorem HasKey.below {w w' : World} {ad : Addr} {n : Nat} (h : HasKey w ad n) (hb : Below w.heap.size w w') : HasKey w' ad n :=
  ⟨Nat.lt_of_lt_of_le h.1 hb.size, fun j u hj => (hb.cell (p := ad.add j) (by rw [block_of_add]; exact h.1)).trans (h.2 j u hj)⟩
theorem HasKey.conv {w : World} {ad : Addr} {n c : Nat} (h : HasKey w ad n) : (convert 32 9 (.slice (some ad) 8 c)).run Try.prog w = .ok (.string (keyStr n)) w := by
  rw [run_convert_bytes_string w 32 9 5 _ 8 c (by kernel_rfl) (by kernel_rfl) (by kernel_rfl)]
  rw [run_bytesToString w _ 8 c (keyInts n) ?_, keyStr_fold]
  have := run_loadCells_list (P := Try.prog) w ad ((keyInts n).map (Value.int .u8)) h.2
  have hl : ((keyInts n).map (Value.int .u8)).length = 8 := by simp [keyInts]
  rw [hl] at this
  exact this

theorem only_walk (U : Nat) (hU : Hid (U < 18446744073709551616)) (w : World) :
    Calls Try.prog 6 #[.int .u64 (U : Int)] w fun e w' => e = .returned (.bool true) ∧ Below w.heap.size w w' := by
  obtain ⟨i0, hi0, hz0, hz1, hz2⟩ := info_parts byte_info
  go_enter Try.func6, Try.ntmps6
  go_wp2_with fail
  refine (awake_any _).mono ?_
  rintro e w1 ⟨rfl, hB1⟩
  go_wp2_with fail
  go_loopw [0, 4, 5] (fun vn vl i wr => ∃ k q : Nat, k ≤ 8 ∧ i = .int .i64 k ∧ Hid (q = U / 256 ^ k) ∧ vn = .int .u64 (q : Int) ∧ wr.ownsRow w.heap.size 5 1 vl k (lowBytes U k) ∧ Below w.heap.size w wr) (fun _ _ i _ => 8 - (intOf i).toNat)
  case atStart => exact ⟨0, U, by omega, rfl, Lib.hid (by simp), rfl, ⟨by simp [lowBytes], .inl ⟨rfl, rfl⟩⟩, hB1⟩
  case round =>
    obtain ⟨k, q, hk, rfl, HQ, rfl, hown, hB⟩ := hrel
    obtain ⟨A, c1, rfl, hr⟩ := own_form hown
    have HO := Lib.hid hown
    have HR := Lib.hid hr
    clear hown hr
    by_cases h8 : k < 8
    · have hw1 : IntKind.u64.wrap ((q : Int) / 256) = (q : Int) / 256 := by
        have h1 := HQ.out
        have h2 := hU.out
        have h3 : U / 256 ^ k ≤ U := Nat.div_le_self _ _
        rw [wrap_u64]
        omega
      have HE := Lib.hid (show Value.int IntKind.u8 ((q : Int) % 256) :: lowBytes U k = lowBytes U (k + 1) from by
        have h1 := HQ.out
        rw [lowBytes, ← h1]
        rfl)
      have HQ2 := Lib.hid (show q / 256 = U / 256 ^ (k + 1) from by
        have h1 := HQ.out
        rw [h1, Nat.div_div_eq_div_mul, Nat.pow_succ])
      go_wp2_with (first
        | (at_builtin
           refine wpList_append_any _ rfl (.tmp 16) (.tmp 17) _ rfl w.heap.size 5 i0 _ 1 1 Try.underlying32 hi0 hz0 hz1 hz2 rfl (by omega) _ 1 [.int .u8 ((q : Int) % 256)] rfl (World.ownsRow_lit _ #[.int .u8 ((q : Int) % 256)] 1 hB.size (by simp [maxLen]) rfl) wr.heap.size A k c1 (lowBytes U k) rfl (HR.out.alloc (Nat.le_refl _) _) (lowBytes_one _ _) (by simp only [maxLen]; omega) (by omega) (by have := hB.size; simp; omega) ?_
           intro v2 w2 hown2 hg2 hat2))
      have hown3 : w2.ownsRow w.heap.size 5 1 v2 (k + 1) (lowBytes U (k + 1)) := by
        have h := hown2
        rw [Nat.add_comm 1 k] at h
        rw [← HE.out]
        exact h
      have hB2 : Below w.heap.size w w2 := (hB.alloc hB.size _).grown hg2 (by have := hB.size; simp; omega) (fun g hg => own_ge (World.ownsRow_lit (base := w.heap.size) (e := 5) (size := 1) wr #[.int .u8 ((q : Int) % 256)] 1 hB.size (by simp [maxLen]) rfl) hg)
      exact ⟨⟨k + 1, q / 256, by omega, by go_num, Lib.hid HQ2.out, rfl, hown3, hB2⟩, by simp [intOf]; omega⟩
    · obtain ⟨ad, rfl, hbl, hcells⟩ := HR.out.2 (by omega)
      have hk8 : k = 8 := by omega
      have hkey : HasKey wr ad U := ⟨hbl, by rw [← lowBytes_eight, ← hk8]; exact hcells⟩
      clear hcells
      subst hk8
      have hcv := hkey.conv (c := c1)
      have HK := Lib.hid hkey
      have HV := Lib.hid (show valN (keyStr U) 8 = U from key_val U hU.out)
      have HRU := Lib.hid (show rank (unrank U) = U from rank_unrank U hU.out)
      have HUL := Lib.hid (unrank_lt U hU.out)
      clear HQ hkey HR
      go_wp2_with fail
      refine (back_any _ _ (key_size _)).mono ?_
      rw [HV.out]
      rintro e w3 ⟨rfl, rfl⟩
      clear hcv
      have hconv : ∀ W, HasKey W ad U → (convert 32 9 (.slice (some ad) 8 c1)).run Try.prog W = .ok (.string (keyStr U)) W := fun W h => h.conv
      have hkey := HK.out
      go_wp2_with fail
      go_region_held3 (fun w' => HasKey w' ad U)
        (first
          | go_keep
          | (refine HasKey.below (by assumption) ?_; first | assumption | exact (Below.refl _ _).drew))
        (first | (go_at_call 19; refine (key_any _ HUL _).mono ?_; rw [HRU.out]; rintro e w5 ⟨rfl, hB5⟩))
      go_wp2
      go_ret
      exact ⟨rfl, (hB.drew).next hB5⟩

/-! ### The reference -/
theorem rrank_any (b : Nat) (hb : Hid (b < 18446744073709551616)) (w : World) :
    Calls Try.prog 16 #[.float .f64 b] w fun e w' => e = .returned (.int .u64 (rank b : Int)) ∧ w = w' := by
  have h22 := bits_run
  by_cases h : b < half
  · have h1 : decide ((b : Int) < 9223372036854775808) = true := by have := eh; simp; omega
    have h2 := Lib.hid (show IntKind.u64.wrap ((b : Int) + 9223372036854775808) = (rank b : Int) from by
      rw [wrap_u64]; unfold rank; rw [if_pos h]; have := eh; omega)
    clear h
    go_enter Try.func16, Try.ntmps16
    go_wp2
    go_ret
    exact ⟨ret_int h2.out, rfl⟩
  · have h1 : decide ((b : Int) < 9223372036854775808) = false := by have := eh; simp; omega
    have h2 := Lib.hid (show IntKind.u64.wrap (18446744073709551615 - (b : Int)) = (rank b : Int) from by
      have := hb.out
      rw [wrap_u64]; unfold rank; rw [if_neg h]; have := eh; omega)
    clear h
    go_enter Try.func16, Try.ntmps16
    go_wp2
    go_ret
    exact ⟨ret_int h2.out, rfl⟩

theorem rless_any (a b : Nat) (ha : Hid (a < 18446744073709551616)) (hb : Hid (b < 18446744073709551616)) (w : World) :
    Calls Try.prog 18 #[.float .f64 a, .float .f64 b] w fun e w' => e = .returned (.bool (decide (rank a < rank b))) ∧ w = w' := by
  go_enter Try.func18, Try.ntmps18
  go_wp2_with fail
  refine (rrank_any a ha _).mono ?_
  rintro e w1 ⟨rfl, rfl⟩
  go_wp2_with fail
  refine (rrank_any b hb _).mono ?_
  rintro e w1 ⟨rfl, rfl⟩
  go_wp2
  go_ret
  exact ⟨rfl, rfl⟩

theorem rkey_any (b : Nat) (hb : Hid (b < 18446744073709551616)) (w : World) :
    Calls Try.prog 20 #[.float .f64 b] w fun e w' => e = .returned (.string (keyStr (rank b))) ∧ Below w.heap.size w w' := by
  obtain ⟨i0, hi0, hz0, hz1, hz2⟩ := info_parts byte_info
  go_enter Try.func20, Try.ntmps20
  go_wp2_with fail
  refine (rrank_any b hb _).mono ?_
  rintro e w1 ⟨rfl, rfl⟩
  have hU : Hid (rank b < 18446744073709551616) := rank_lt b hb.out
  go_wp2_with fail
  go_loopw [3, 4, 5] (fun vn vl i wr => ∃ k q : Nat, k ≤ 8 ∧ i = .int .i64 k ∧ Hid (q = rank b / 256 ^ k) ∧ vn = .int .u64 (q : Int) ∧ wr.ownsRow w.heap.size 5 1 vl k (lowBytes (rank b) k) ∧ Below w.heap.size w wr) (fun _ _ i _ => 8 - (intOf i).toNat)
  case atStart => exact ⟨0, rank b, by omega, rfl, Lib.hid (by simp), rfl, ⟨by simp [lowBytes], .inl ⟨rfl, rfl⟩⟩, Below.refl _ _⟩
  case round =>
    obtain ⟨k, q, hk, rfl, HQ, rfl, hown, hB⟩ := hrel
    obtain ⟨A, c1, rfl, hr⟩ := own_form hown
    have HO := Lib.hid hown
    have HR := Lib.hid hr
    clear hown hr
    by_cases h8 : k < 8
    · have hw1 : IntKind.u64.wrap ((q : Int) / 256) = (q : Int) / 256 := by
        have h1 := HQ.out
        have h2 := hU.out
        have h3 : rank b / 256 ^ k ≤ rank b := Nat.div_le_self _ _
        rw [wrap_u64]
        omega
      have HE := Lib.hid (show Value.int IntKind.u8 ((q : Int) % 256) :: lowBytes (rank b) k = lowBytes (rank b) (k + 1) from by
        have h1 := HQ.out
        rw [lowBytes, ← h1]
        rfl)
      have HQ2 := Lib.hid (show q / 256 = rank b / 256 ^ (k + 1) from by
        have h1 := HQ.out
        rw [h1, Nat.div_div_eq_div_mul, Nat.pow_succ])
      go_wp2_with (first
        | (at_builtin
           refine wpList_append_any _ rfl (.tmp 15) (.tmp 16) _ rfl w.heap.size 5 i0 _ 1 1 Try.underlying32 hi0 hz0 hz1 hz2 rfl (by omega) _ 1 [.int .u8 ((q : Int) % 256)] rfl (World.ownsRow_lit _ #[.int .u8 ((q : Int) % 256)] 1 hB.size (by simp [maxLen]) rfl) wr.heap.size A k c1 (lowBytes (rank b) k) rfl (HR.out.alloc (Nat.le_refl _) _) (lowBytes_one _ _) (by simp only [maxLen]; omega) (by omega) (by have := hB.size; simp; omega) ?_
           intro v2 w2 hown2 hg2 hat2))
      have hown3 : w2.ownsRow w.heap.size 5 1 v2 (k + 1) (lowBytes (rank b) (k + 1)) := by
        have h := hown2
        rw [Nat.add_comm 1 k] at h
        rw [← HE.out]
        exact h
      have hB2 : Below w.heap.size w w2 := (hB.alloc hB.size _).grown hg2 (by have := hB.size; simp; omega) (fun g hg => own_ge (World.ownsRow_lit (base := w.heap.size) (e := 5) (size := 1) wr #[.int .u8 ((q : Int) % 256)] 1 hB.size (by simp [maxLen]) rfl) hg)
      exact ⟨⟨k + 1, q / 256, by omega, by go_num, Lib.hid HQ2.out, rfl, hown3, hB2⟩, by simp [intOf]; omega⟩
    · obtain ⟨ad, rfl, hbl, hcells⟩ := HR.out.2 (by omega)
      have hk8 : k = 8 := by omega
      have hkey : HasKey wr ad (rank b) := ⟨hbl, by rw [← lowBytes_eight, ← hk8]; exact hcells⟩
      clear hcells
      subst hk8
      have hcv := hkey.conv (c := c1)
      clear HQ hkey HR HO
      go_wp2
      go_ret
      exact ⟨rfl, hB⟩

theorem mul_add_form (n c : Nat) (hn : n < 72057594037927936) (hc : c < 256) : IntKind.u64.wrap (IntKind.u64.wrap ((n : Int) * 256) + IntKind.u64.wrap (c : Int)) = ((n * 256 + c : Nat) : Int) := by
  rw [wrap_u64, wrap_u64, wrap_u64]; omega

theorem rback_any (s : ByteArray) (w : World) (hs : s.size = 8) :
    Calls Try.prog 12 #[.string s] w fun e w' => e = .returned (.tuple #[.float .f64 (unrank (valN s 8)), .bool true]) ∧ w = w' := by
  have h23 := from_run
  go_enter Try.func12, Try.ntmps12
  go_wp2
  go_loop [4, 5] (fun v i => ∃ k n : Nat, k ≤ 8 ∧ i = .int .i64 k ∧ v = .int .u64 (n : Int) ∧ Hid (n = valN s k)) (fun _ i => 8 - (intOf i).toNat)
  case atStart => exact ⟨0, 0, by omega, rfl, rfl, Lib.hid rfl⟩
  case round =>
    obtain ⟨k, n, hk, rfl, rfl, HN⟩ := hrel
    by_cases hlt : k < 8
    · have hks : k < s.size := by omega
      have HF := Lib.hid (show IntKind.u64.wrap (IntKind.u64.wrap ((n : Int) * 256) + IntKind.u64.wrap (s[k].toNat : Int)) = ((valN s (k + 1) : Nat) : Int) from by
        have h1 := valN_lt s k (by omega)
        have h2 : 256 ^ k ≤ 256 ^ 7 := Nat.pow_le_pow_right (by decide) (by omega)
        rw [mul_add_form n _ (by rw [HN.out]; omega) s[k].toNat_lt, valN_succ s k hks, HN.out])
      clear hs
      go_wp2
      refine ⟨⟨k + 1, _, by omega, by go_num, congrArg _ HF.out, Lib.hid rfl⟩, by simp [intOf]; omega⟩
    · obtain rfl : k = 8 := by omega
      have hlt2 := valN_lt s 8 (by omega)
      rw [← HN.out] at hlt2
      by_cases h : half ≤ n
      · have h1 : decide (9223372036854775808 ≤ (n : Int)) = true := by have := eh; simp; omega
        have HF := Lib.hid (show (IntKind.u64.wrap ((n : Int) - 9223372036854775808)).toNat = unrank (valN s 8) from by
          rw [← HN.out, wrap_u64]; unfold unrank; rw [if_pos h]; have := eh; omega)
        clear h hlt2
        go_wp2
        go_ret2
        exact ⟨ret_back HF.out, rfl⟩
      · have h1 : decide (9223372036854775808 ≤ (n : Int)) = false := by have := eh; simp; omega
        have HF := Lib.hid (show (IntKind.u64.wrap (18446744073709551615 - (n : Int))).toNat = unrank (valN s 8) from by
          rw [← HN.out, wrap_u64]; unfold unrank; rw [if_neg h]; have := eh; omega)
        clear h hlt2
        go_wp2
        go_ret2
        exact ⟨ret_back HF.out, rfl⟩

theorem rback_no (s : ByteArray) (w : World) (hs : ¬ s.size = 8) :
    Calls Try.prog 12 #[.string s] w fun e w' => e = .returned (.tuple #[.float .f64 0, .bool false]) ∧ w = w' := by
  have h1 : ((s.size : Int) != 8) = true := by rw [bne_iff_ne]; omega
  clear hs
  go_enter Try.func12, Try.ntmps12
  go_wp2
  go_ret2
  exact ⟨rfl, rfl⟩

theorem same_any (a b : Nat) (w : World) : Calls Try.prog 21 #[.float .f64 a, .float .f64 b] w fun e w' => e = .returned (.bool ((a : Int) == (b : Int))) ∧ w = w' := by
  have h22 := bits_run
  go_enter Try.func21, Try.ntmps21
  go_wp2
  go_ret
  exact ⟨rfl, rfl⟩

theorem rclass_facts (b : Nat) (hb : b < 18446744073709551616) :
    (cls b = 1 ∧ (FloatKind.f64.format.order b 0 == some Ordering.lt) = false ∧ (FloatKind.f64.format.order b 0 == some Ordering.gt) = false ∧ (FloatKind.f64.format.order b 9218868437227405311 == some Ordering.gt) = false ∧ ((b : Int) == 0) = false ∧ ((b : Int) == 9223372036854775808) = false) ∨
    (2 ≤ cls b ∧ cls b ≤ 7 ∧ (FloatKind.f64.format.order b 0 == some Ordering.lt) = decide (cls b ≤ 3) ∧ (FloatKind.f64.format.order b 0 == some Ordering.gt) = decide (6 ≤ cls b) ∧
      (FloatKind.f64.format.order b 18442240474082181119 == some Ordering.lt) = decide (cls b = 2) ∧ (FloatKind.f64.format.order b 9218868437227405311 == some Ordering.gt) = decide (cls b = 7) ∧ ((b : Int) == 0) = decide (cls b = 5) ∧ ((b : Int) == 9223372036854775808) = decide (cls b = 4)) := by
  have h0 := eh
  have h1 := einf
  have hru : rung b = b % 9223372036854775808 := rfl
  have hsl : sv 18442240474082181119 = -9218868437227405311 := by decide
  have hsh : sv 9218868437227405311 = 9218868437227405311 := by decide
  have nl : nan 18442240474082181119 = false := by decide
  have nh : nan 9218868437227405311 = false := by decide
  rw [(ordB b 0 hb (by decide)).1, (ordB b 0 hb (by decide)).2.1, (ordB b 18442240474082181119 hb (by decide)).2.1, (ordB b 9218868437227405311 hb (by decide)).1, nl, nh, nan_zero, sv_zero, hsl, hsh, sv_nat]
  by_cases hn : nan b = true
  · left
    have hlt : inf < rung b := by
      have := hn
      unfold nan at this
      simpa using this
    refine ⟨by simp [cls, hn], by rw [hn]; rfl, by rw [hn]; rfl, by rw [hn]; rfl, ?_, ?_⟩
    · rw [beq_eq_false_iff_ne]; omega
    · rw [beq_eq_false_iff_ne]; omega
  · right
    have hn : nan b = false := by simpa using hn
    have hle : rung b ≤ inf := by
      have := hn
      unfold nan at this
      simpa using this
    have e1 : ((b : Int) == 0) = decide (b = 0) := by rw [Bool.eq_iff_iff]; simp
    have e2 : ((b : Int) == 9223372036854775808) = decide (b = 9223372036854775808) := by rw [Bool.eq_iff_iff]; simp; omega
    have hc : cls b = if half ≤ b then (if rung b = inf then 2 else if rung b = 0 then 4 else 3) else (if rung b = inf then 7 else if rung b = 0 then 5 else 6) := by
      unfold cls; simp [hn]
    rw [hn, e1, e2, hc]
    simp only [Bool.not_false, Bool.true_and, decide_eq_decide]
    by_cases g1 : half ≤ b
    · by_cases g2 : rung b = inf
      · simp only [if_pos g1, if_pos g2]; refine ⟨?_, ?_, ?_, ?_, ?_, ?_, ?_, ?_⟩ <;> first | omega | (simp only [iff_true]; omega)
      · by_cases g3 : rung b = 0
        · simp only [if_pos g1, if_neg g2, if_pos g3]; refine ⟨?_, ?_, ?_, ?_, ?_, ?_, ?_, ?_⟩ <;> first | omega | (simp only [iff_true]; omega)
        · simp only [if_pos g1, if_neg g2, if_neg g3]; refine ⟨?_, ?_, ?_, ?_, ?_, ?_, ?_, ?_⟩ <;> first | omega | (simp only [iff_true]; omega)
    · by_cases g2 : rung b = inf
      · simp only [if_neg g1, if_pos g2]; refine ⟨?_, ?_, ?_, ?_, ?_, ?_, ?_, ?_⟩ <;> first | omega | (simp only [iff_true]; omega)
      · by_cases g3 : rung b = 0
        · simp only [if_neg g1, if_neg g2, if_pos g3]; refine ⟨?_, ?_, ?_, ?_, ?_, ?_, ?_, ?_⟩ <;> first | omega | (simp only [iff_true]; omega)
        · simp only [if_neg g1, if_neg g2, if_neg g3]; refine ⟨?_, ?_, ?_, ?_, ?_, ?_, ?_, ?_⟩ <;> first | omega | (simp only [iff_true]; omega)

theorem rclass_any (b : Nat) (hb : Hid (b < 18446744073709551616)) (w : World) :
    Calls Try.prog 14 #[.float .f64 b] w fun e w' => e = .returned (.int .i64 (cls b : Int)) ∧ w = w' := by
  have h22 := bits_run
  rcases rclass_facts b hb.out with ⟨hc, f1, f2, f3, f4, f5⟩ | ⟨c1, c2, f1, f2, f3, f4, f5, f6⟩
  · have HC := Lib.hid hc
    clear hc
    go_enter Try.func14, Try.ntmps14
    go_wp2
    go_ret
    exact ⟨ret_int (by rw [HC.out]; rfl), rfl⟩
  · have c6 : cls b = 2 ∨ cls b = 3 ∨ cls b = 4 ∨ cls b = 5 ∨ cls b = 6 ∨ cls b = 7 := by omega
    clear c1 c2
    rcases c6 with h | h | h | h | h | h
    all_goals
      have HC := Lib.hid h
      rw [h] at f1 f2 f3 f4 f5 f6
      clear h
      simp only [Nat.reduceEqDiff, decide_true, decide_false, Nat.reduceLeDiff] at f1 f2 f3 f4 f5 f6
      go_enter Try.func14, Try.ntmps14
      go_wp2
      go_ret
      exact ⟨ret_int (by rw [HC.out]; rfl), rfl⟩

theorem tells_walk (a b : Nat) (s : ByteArray) (ha : Hid (a < 18446744073709551616)) (hb : Hid (b < 18446744073709551616)) (w : World) :
    Calls Try.prog 3 #[.float .f64 a, .float .f64 b, .string s] w fun e w' => e = .returned (.bool true) ∧ Below w.heap.size w w' := by
  by_cases hbig : 100 < s.size
  · have h1 : decide (100 < (s.size : Int)) = true := by simp; omega
    clear hbig
    go_enter Try.func3, Try.ntmps3
    go_wp2_with fail
    refine (awake_any _).mono ?_
    rintro e w1 ⟨rfl, hB1⟩
    go_wp2
    go_ret
    exact ⟨rfl, hB1⟩
  · have h1 : decide (100 < (s.size : Int)) = false := by simp; omega
    clear hbig
    obtain ⟨f, o, hback, hrback⟩ : ∃ (f : Nat) (o : Bool), (∀ w, Calls Try.prog 11 #[.string s] w fun e w' => e = .returned (.tuple #[.float .f64 f, .bool o]) ∧ w = w') ∧ (∀ w, Calls Try.prog 12 #[.string s] w fun e w' => e = .returned (.tuple #[.float .f64 f, .bool o]) ∧ w = w') := by
      by_cases h8 : s.size = 8
      · exact ⟨_, _, fun w => back_any s w h8, fun w => rback_any s w h8⟩
      · exact ⟨_, _, fun w => back_no s w h8, fun w => rback_no s w h8⟩
    have HBK := Lib.hid hback
    have HRB := Lib.hid hrback
    clear hback hrback
    go_enter Try.func3, Try.ntmps3
    go_wp2_with fail
    refine (awake_any _).mono ?_
    rintro e w1 ⟨rfl, hB1⟩
    go_wp2_with fail
    refine (HBK.out _).mono ?_
    rintro e w2 ⟨rfl, rfl⟩
    go_wp2_with fail
    refine (HRB.out _).mono ?_
    rintro e w2 ⟨rfl, rfl⟩
    go_wp2_with fail
    refine (class_any a ha _).mono ?_
    rintro e w2 ⟨rfl, rfl⟩
    go_wp2_with fail
    refine (rclass_any a ha _).mono ?_
    rintro e w2 ⟨rfl, rfl⟩
    go_wp2_with fail
    refine (rank_any a ha _).mono ?_
    rintro e w2 ⟨rfl, rfl⟩
    go_wp2_with fail
    refine (rrank_any a ha _).mono ?_
    rintro e w2 ⟨rfl, rfl⟩
    go_wp2_with fail
    refine (less_any a b ha hb _).mono ?_
    rintro e w2 ⟨rfl, rfl⟩
    go_wp2_with fail
    refine (rless_any a b ha hb _).mono ?_
    rintro e w2 ⟨rfl, rfl⟩
    go_wp2_with fail
    refine (key_any a ha _).mono ?_
    rintro e w2 ⟨rfl, hB2⟩
    go_wp2_with fail
    refine (rkey_any a ha _).mono ?_
    rintro e w3 ⟨rfl, hB3⟩
    go_wp2_with fail
    refine (same_any f f _).mono ?_
    rintro e w4 ⟨rfl, rfl⟩
    go_wp2
    go_ret
    exact ⟨rfl, (hB1.next hB2).next hB3⟩
end Go.Proofs.Ytmfcbjjjehbpkaa
