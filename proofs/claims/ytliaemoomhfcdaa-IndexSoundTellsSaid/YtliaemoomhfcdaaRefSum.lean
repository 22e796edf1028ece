/- The walks of the reference's checks of words. -/
import Derived.Test.YtliaemoomhfcdaaMA
namespace Go.Proofs.Ytliaemoomhfcdaa
open Go.RowKit
open Crc
set_option maxHeartbeats 1000000
set_option maxRecDepth 100000

theorem bits_or32 (a b : BitVec 32) : bits .or .u32 (a.toNat : Int) (b.toNat : Int) = ((a ||| b).toNat : Int) := by
  show IntKind.u32.wrap _ = _
  rw [IntKind.wrap_u32]
  show ((((BitVec.ofInt 32 (a.toNat : Int)) ||| (BitVec.ofInt 32 (b.toNat : Int))).toNat : Int)) % 4294967296 = _
  rw [BitVec.ofInt_natCast, BitVec.ofInt_natCast]
  simp only [BitVec.ofNat_toNat, BitVec.setWidth_eq]
  have := (a ||| b).isLt
  omega

theorem or_and_xor (a b : BitVec 32) : (a ||| b) - (a &&& b) = a ^^^ b := by
  have h1 : (a ^^^ b) + (a &&& b) = (a ^^^ b) ||| (a &&& b) := by
    apply BitVec.add_eq_or_of_and_eq_zero
    apply BitVec.eq_of_getLsbD_eq
    intro i _
    simp only [BitVec.getLsbD_and, BitVec.getLsbD_xor, BitVec.getLsbD_zero]
    cases a.getLsbD i <;> cases b.getLsbD i <;> rfl
  have h2 : (a ^^^ b) ||| (a &&& b) = a ||| b := by
    apply BitVec.eq_of_getLsbD_eq
    intro i _
    simp only [BitVec.getLsbD_and, BitVec.getLsbD_xor, BitVec.getLsbD_or]
    cases a.getLsbD i <;> cases b.getLsbD i <;> rfl
  rw [← h2, ← h1, BitVec.add_sub_cancel]

theorem turn_form (a b : BitVec 32) : (bits .or .u32 (a.toNat : Int) (b.toNat : Int) - bits .and .u32 (a.toNat : Int) (b.toNat : Int)) % 4294967296 = ((a ^^^ b).toNat : Int) := by
  rw [bits_or32, bits_and32, ← or_and_xor, BitVec.toNat_sub]
  have h1 := (a ||| b).isLt
  have h2 := (a &&& b).isLt
  omega

theorem turn_call (a b : BitVec 32) (w : World) : Calls Try.prog 130 #[u32 a, u32 b] w fun e w' => e = .returned (u32 (a ^^^ b)) ∧ w = w' := by
  have HF := Lib.hid (turn_form a b)
  go_enter Try.func130, Try.ntmps130
  go_wp2
  go_ret
  exact ⟨ret_int HF.out, rfl⟩

theorem half_form (c : BitVec 32) : (c.toNat : Int) / (2 : Int) = ((c >>> 1).toNat : Int) := by
  rw [BitVec.toNat_ushiftRight, Nat.shiftRight_eq_div_pow]; omega

theorem move_call (c : BitVec 32) (w : World) : Calls Try.prog 131 #[u32 c] w fun e w' => e = .returned (u32 (Crc.step c)) ∧ w = w' := by
  have hbit : c.getLsbD 0 = decide (c.toNat % 2 = 1) := by
    rw [BitVec.getLsbD, Nat.testBit_zero]
  by_cases h : c.toNat % 2 = 1
  · have h1 : ((c.toNat : Int) % 2 == 1) = true := by rw [beq_iff_eq]; omega
    have hs : Crc.step c = (c >>> 1) ^^^ poly := by rw [step_eq, hbit]; simp [h]
    rw [hs]
    have hh := half_form c
    have hp : (3988292384 : Int) = ((poly).toNat : Int) := rfl
    clear h hs hbit
    have HH := Lib.hid hh
    clear hh hp
    go_enter Try.func131, Try.ntmps131
    go_wp2_with fail
    rw [HH.out]
    refine (turn_call (c >>> 1) poly _).mono ?_
    rintro e w1 ⟨rfl, rfl⟩
    go_wp2
    go_ret
    exact ⟨rfl, rfl⟩
  · have h1 : ((c.toNat : Int) % 2 == 1) = false := by rw [beq_eq_false_iff_ne]; omega
    have hs : Crc.step c = c >>> 1 := by rw [step_eq, hbit]; simp [h]
    rw [hs]
    have HH := Lib.hid (half_form c)
    clear h hs hbit
    go_enter Try.func131, Try.ntmps131
    go_wp2
    go_ret
    exact ⟨ret_int HH.out, rfl⟩

theorem rbyte_call (c : BitVec 32) (b : Int) (hb0 : 0 ≤ b) (hb1 : b < 256) (w : World) :
    Calls Try.prog 129 #[u32 c, .int .u8 b] w fun e w' => e = .returned (u32 (byte c (BitVec.ofInt 32 b))) ∧ w = w' := by
  have hb2 : b = ((BitVec.ofInt 32 b).toNat : Int) := by rw [BitVec.toNat_ofInt]; omega
  have HB2 := Lib.hid hb2
  clear hb2
  go_enter Try.func129, Try.ntmps129
  go_wp2_with fail
  rw [show Value.int IntKind.u32 b = u32 (BitVec.ofInt 32 b) from congrArg _ HB2.out]
  refine (turn_call c _ _).mono ?_
  rintro e w1 ⟨rfl, rfl⟩
  go_wp2_with fail
  go_loop [0, 5] (fun v i => ∃ n : Nat, n ≤ 8 ∧ i = .int .i64 n ∧ v = u32 (steps n (c ^^^ BitVec.ofInt 32 b))) (fun _ i => 8 - (intOf i).toNat)
  case atStart => exact ⟨0, by omega, rfl, rfl⟩
  case round =>
    obtain ⟨n, hn, rfl, rfl⟩ := hrel
    by_cases h8 : n < 8
    · go_wp2_with fail
      refine (move_call _ _).mono ?_
      rintro e w2 ⟨rfl, rfl⟩
      go_wp2_with fail
      go_round
      case rel => exact ⟨n + 1, by omega, by go_num, by rw [steps_succ]⟩
      case measure => simp [intOf]; omega
    · obtain rfl : n = 8 := by omega
      go_wp2
      go_ret
      exact ⟨rfl, rfl⟩

theorem byte_info : (Try.prog.info? 5).map (fun i => (i.zero, i.size, i.bytes)) = some (some (.int .u8 0), 1, 1) := by kernel_rfl

/-- The lowest bytes of a number, the highest of these first. -/
def lowBytes (u : Nat) : Nat → List Value
  | 0 => []
  | n + 1 => .int .u8 (((u / 256 ^ n % 256 : Nat) : Int)) :: lowBytes u n
theorem lowBytes_one (u n : Nat) : ∀ v ∈ lowBytes u n, v.oneCell' = true := by
  induction n with
  | zero => intro v hv; cases hv
  | succ n ih =>
    intro v hv
    rcases List.mem_cons.1 hv with rfl | h
    · rfl
    · exact ih v h
theorem lowBytes_get (u n i : Nat) (h : i < n) : (lowBytes u n)[i]? = some (.int .u8 ((u / 256 ^ (n - 1 - i) % 256 : Nat) : Int)) := by
  induction n generalizing i with
  | zero => omega
  | succ n ih =>
    cases i with
    | zero => simp [lowBytes]
    | succ i =>
      rw [lowBytes, List.getElem?_cons_succ, ih i (by omega)]
      congr 4
      rw [show n + 1 - 1 - (i + 1) = n - 1 - i from by omega]

theorem piece_pow (x : Int) (m : Nat) : BitVec.ofInt 32 (((BitVec.ofInt 64 x).toNat / 256 ^ m % 256 : Nat) : Int) = piece (BitVec.ofInt 64 x) (8 * m) := by
  rw [BitVec.ofInt_natCast]
  unfold piece
  rw [show (2 : Nat) ^ (8 * m) = 256 ^ m from by rw [Nat.pow_mul]]

theorem u64_form (x : Int) : IntKind.u64.wrap x = ((BitVec.ofInt 64 x).toNat : Int) := by
  rw [BitVec.toNat_ofInt]
  simp [IntKind.wrap, IntKind.bits, IntKind.signed]
  omega

theorem own_form1 {w : World} {base e n : Nat} {v : Value} {xs : List Value} (h : w.ownsRow base e 1 v n xs) : ∃ A c, v = .slice A n c ∧ Reads w w.heap.size 1 A n xs := by
  rcases id h.2 with ⟨rfl, rfl⟩ | ⟨g, cap, cur, rfl, _⟩
  · exact ⟨none, 0, rfl, Reads.of_own h⟩
  · exact ⟨_, cap, rfl, Reads.of_own h⟩
theorem rword_call (c : BitVec 32) (x : Int) (w : World) :
    Calls Try.prog 125 #[u32 c, .int .i64 x] w fun e w' => e = .returned (u32 (word c (BitVec.ofInt 64 x))) ∧ Below w.heap.size w w' := by
  obtain ⟨i0, hi0, hz0, hz1, hz2⟩ := info_parts byte_info
  have HU := Lib.hid (u64_form x)
  go_enter Try.func125, Try.ntmps125
  go_wp2_with fail
  rw [HU.out]
  generalize hU : (BitVec.ofInt 64 x).toNat = U
  have HUU := Lib.hid hU
  clear hU
  have HUL : Hid (U < 18446744073709551616) := by rw [← HUU.out]; exact (BitVec.ofInt 64 x).isLt
  go_loopw [5, 6, 7] (fun vn vl i wr => ∃ k q : Nat, k ≤ 8 ∧ i = .int .i64 k ∧ Hid (q = U / 256 ^ k) ∧ vn = .int .u64 (q : Int) ∧ wr.ownsRow w.heap.size 5 1 vl k (lowBytes U k) ∧ Below w.heap.size w wr) (fun _ _ i _ => 8 - (intOf i).toNat)
  case atStart => exact ⟨0, U, by omega, rfl, Lib.hid (by simp), rfl, ⟨by simp [lowBytes], .inl ⟨rfl, rfl⟩⟩, Below.refl _ _⟩
  case round =>
    obtain ⟨k, q, hk, rfl, HQ, rfl, hown, hB⟩ := hrel
    obtain ⟨A, c1, rfl, hr⟩ := own_form1 hown
    have HO := Lib.hid hown
    have HR := Lib.hid hr
    clear hown hr
    by_cases h8 : k < 8
    · have hq0 : (0 : Int) ≤ (q : Int) := Int.natCast_nonneg _
      have hq1 : (q : Int) < 18446744073709551616 := by
        have h1 := HQ.out
        have h2 := HUL.out
        have h3 : U / 256 ^ k ≤ U := Nat.div_le_self _ _
        omega
      have hw1 : IntKind.u64.wrap ((q : Int) / 256) = (q : Int) / 256 := by
        rw [show IntKind.u64.wrap ((q : Int) / 256) = ((q : Int) / 256) % 18446744073709551616 from by simp [IntKind.wrap, IntKind.bits, IntKind.signed]]
        omega
      clear hq1
      have HE := Lib.hid (show Value.int IntKind.u8 ((q : Int) % 256) :: lowBytes U k = lowBytes U (k + 1) from by
        have h1 := HQ.out
        rw [lowBytes, ← h1]
        rfl)
      have HQ2 := Lib.hid (show q / 256 = U / 256 ^ (k + 1) from by
        have h1 := HQ.out
        rw [h1, Nat.div_div_eq_div_mul, Nat.pow_succ])
      go_wp2_with (first
        | (at_builtin
           refine wpList_append_any _ rfl (.tmp 18) (.tmp 19) _ rfl w.heap.size 5 i0 _ 1 1 Try.underlying117 hi0 hz0 hz1 hz2 rfl (by omega) _ 1 [.int .u8 ((q : Int) % 256)] rfl (World.ownsRow_lit _ #[.int .u8 ((q : Int) % 256)] 1 hB.size (by simp [maxLen]) rfl) wr.heap.size A k c1 (lowBytes U k) rfl (HR.out.alloc (Nat.le_refl _) _) (lowBytes_one _ _) (by simp only [maxLen]; omega) (by omega) (by have := hB.size; simp; omega) ?_
           intro v2 w2 hown2 hg2 hat2))
      have hown3 : w2.ownsRow w.heap.size 5 1 v2 (k + 1) (lowBytes U (k + 1)) := by
        have h := hown2
        rw [Nat.add_comm 1 k] at h
        rw [← HE.out]
        exact h
      have hB2 : Below w.heap.size w w2 := (hB.alloc hB.size _).grown hg2 (by have := hB.size; simp; omega) (fun g hg => own_ge (World.ownsRow_lit (base := w.heap.size) (e := 5) (size := 1) wr #[.int .u8 ((q : Int) % 256)] 1 hB.size (by simp [maxLen]) rfl) hg)
      exact ⟨⟨k + 1, q / 256, by omega, by go_num, Lib.hid HQ2.out, rfl, hown3, hB2⟩, by simp [intOf]; omega⟩
    · have h8k : 8 ≤ k := by omega
      clear HQ HUL
      go_wp2_with fail
      go_loopw [0, 8] (fun v i wi => ∃ (n : Nat) (d : BitVec 32), n ≤ 8 ∧ i = .int .i64 n ∧ v = Go.Proofs.Ytliaemoomhfcdaa.u32 d ∧ Hid (Crc.bytes d (BitVec.ofInt 64 x) (8 - n) = word c (BitVec.ofInt 64 x)) ∧ wi = wr) (fun _ i _ => 8 - (intOf i).toNat)
      case atStart => exact ⟨0, c, by omega, rfl, rfl, Lib.hid (show Crc.bytes c _ 8 = word c _ from rfl), rfl⟩
      case round =>
        obtain ⟨n, d, hn, rfl, rfl, hh, rfl⟩ := hrel
        by_cases h8n : n < 8
        · obtain ⟨ad, u, rfl, hbl, hx, hcell⟩ := HR.out.at_ (show n < k by omega)
          rw [lowBytes_get U k n (by omega)] at hx
          injection hx with hx
          subst hx
          have HP := Lib.hid (show BitVec.ofNat 32 (U / 256 ^ (k - 1 - n) % 256) = piece (BitVec.ofInt 64 x) (8 * (7 - n)) from by
            rw [← HUU.out, show k - 1 - n = 7 - n from by omega, ← BitVec.ofInt_natCast]
            exact piece_pow x (7 - n))
          have hlt : U / 256 ^ (k - 1 - n) % 256 < 256 := Nat.mod_lt _ (by decide)
          generalize U / 256 ^ (k - 1 - n) % 256 = bb at *
          go_wp2_with fail
          refine (rbyte_call d (bb : Int) (by omega) (by omega) _).mono ?_
          rintro e w5 ⟨rfl, rfl⟩
          go_wp2_with fail
          go_roundw
          case rel =>
            refine ⟨n + 1, _, by omega, by go_num, rfl, Lib.hid ?_, trivial⟩
            have h3 := hh.out
            rw [show 8 - n = (8 - (n + 1)) + 1 from by omega, Crc.bytes] at h3
            rw [HP.out, show 7 - n = 8 - (n + 1) from by omega]
            exact h3
          case measure => simp [intOf]; omega
        · obtain rfl : n = 8 := by omega
          have hd : d = word c (BitVec.ofInt 64 x) := hh.out
          subst hd
          go_wp2
          go_ret
          exact ⟨rfl, hB⟩

theorem rof_call (A : Option Addr) (n cap : Nat) (xs : List Int) (w : World) (hr : RI w A n xs) (hn : n ≤ 1000000) :
    Calls Try.prog 110 #[.slice A n cap] w fun e w' => e = .returned (.int .i64 (sumOf xs)) ∧ Below w.heap.size w w' := by
  have HR := Lib.hid hr
  clear hr
  go_enter Try.func110, Try.ntmps110
  go_wp2_with fail
  go_loopw [3, 4] (fun c i wr => ∃ k : Nat, k ≤ n ∧ i = .int .i64 k ∧ c = u32 (acc xs k) ∧ Below w.heap.size w wr) (fun _ i _ => n - (intOf i).toNat)
  case atStart => exact ⟨0, by omega, rfl, rfl, Below.refl _ _⟩
  case round =>
    obtain ⟨k, hk, rfl, rfl, hB⟩ := hrel
    by_cases hlt : k < n
    · obtain ⟨ad, x, hA, _, hxk, hck⟩ := (HR.out.below hB).at_ hlt
      subst hA
      have HN := Lib.hid (acc_succ xs k x hxk)
      clear hxk
      go_wp2_with fail
      refine (rword_call _ x _).mono ?_
      rintro e w2 ⟨rfl, hB2⟩
      go_wp2_with fail
      go_roundw
      case rel => exact ⟨k + 1, by omega, by go_num, by rw [HN.out], hB.next hB2⟩
      case measure => simp [intOf]; omega
    · obtain rfl : k = n := by omega
      have hl := HR.out.len
      have HC := Lib.hid (show 4294967295 - ((acc xs k).toNat : Int) = sumOf xs from by rw [acc_all xs k (by omega)]; rfl)
      have hb1 : ((acc xs k).toNat : Int) < 4294967296 := by have := (acc xs k).isLt; omega
      clear hl
      go_wp2
      go_ret
      exact ⟨ret_int HC.out, hB⟩
end Go.Proofs.Ytliaemoomhfcdaa
