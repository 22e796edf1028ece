/- Plain facts on the words of floating point: how two words stand to each other, told by their signs and rungs. No program in sight. -/
import Ieee.Arith
namespace Go.Proofs.Ytmfcbjjjehbpkaa.Fl
open Ieee

def half : Nat := 9223372036854775808
def inf : Nat := 9218868437227405312
def bin : Nat := 4503599627370496
def rung (b : Nat) : Nat := b % half
def neg (b : Nat) : Bool := decide (half ≤ b)
/-- The word stands for no number. -/
def nan (b : Nat) : Bool := decide (inf < rung b)
/-- A number's place, by its sign and rung. -/
def sv (b : Nat) : Int := if half ≤ b then -(rung b : Int) else (rung b : Int)

def sg (s : Bool) (n : Nat) : Int := if s then -(n : Int) else (n : Int)

theorem cmp_eq (a b : Int) : compare a b = if a < b then .lt else if a = b then .eq else .gt := by
  show compareOfLessAndEq a b = _
  unfold compareOfLessAndEq
  rfl

theorem cmp_scale (a b : Int) (k : Int) (hk : 0 < k) : compare (a * k) (b * k) = compare a b := by
  rw [cmp_eq, cmp_eq]
  have h1 : a * k < b * k ↔ a < b := Int.mul_lt_mul_right hk
  have h2 : a * k = b * k ↔ a = b := Int.mul_eq_mul_right_iff (by omega)
  simp only [h1, h2]

theorem signed_eq (s : Bool) (m u : Nat) : signed s m u = sg s m * ((2 ^ u : Nat) : Int) := by
  unfold signed sg
  rw [Nat.shiftLeft_eq]
  cases s
  · simp
  · simp [Int.neg_mul]

/-- The order of two numbers over one least place. -/
theorem order_number (s t : Bool) (m n i j : Nat) (L : Int) :
    Datum.order (.number s m (L + i)) (.number t n (L + j)) = some (compare (sg s m * ((2 ^ i : Nat) : Int)) (sg t n * ((2 ^ j : Nat) : Int))) := by
  have h : Datum.order (.number s m (L + i)) (.number t n (L + j)) = some (compare (signed s m ((L + i) - min (L + i) (L + j)).toNat) (signed t n ((L + j) - min (L + i) (L + j)).toNat)) := rfl
  rw [h, signed_eq, signed_eq]
  rw [show ((L + i) - min (L + i) (L + j)).toNat = i - min i j from by omega, show ((L + j) - min (L + i) (L + j)).toNat = j - min i j from by omega]
  have e1 : sg s m * ((2 ^ i : Nat) : Int) = sg s m * ((2 ^ (i - min i j) : Nat) : Int) * ((2 ^ (min i j) : Nat) : Int) := by
    rw [Int.mul_assoc, ← Int.natCast_mul, ← Nat.pow_add, Nat.sub_add_cancel (Nat.min_le_left i j)]
  have e2 : sg t n * ((2 ^ j : Nat) : Int) = sg t n * ((2 ^ (j - min i j) : Nat) : Int) * ((2 ^ (min i j) : Nat) : Int) := by
    rw [Int.mul_assoc, ← Int.natCast_mul, ← Nat.pow_add, Nat.sub_add_cancel (Nat.min_le_right i j)]
  rw [e1, e2, cmp_scale _ _ _ (by have := Nat.two_pow_pos (min i j); omega)]

/-- A rung's magnitude. -/
def mag (r : Nat) : Nat := if r < bin then r else bin + r % bin
def up (r : Nat) : Nat := if r < bin then 0 else r / bin - 1
def val (r : Nat) : Nat := mag r * 2 ^ up r

theorem val_lt {r q : Nat} (h : r < q) : val r < val q := by
  have hb : 0 < bin := by decide
  have dr := Nat.div_add_mod r bin
  have dq := Nat.div_add_mod q bin
  have mr := Nat.mod_lt r hb
  have mq := Nat.mod_lt q hb
  by_cases h1 : q < bin
  · simp only [val, mag, up, show r < bin from by omega, h1, if_true]
    simpa using h
  · have hq1 : 1 ≤ q / bin := by
      rw [Nat.le_div_iff_mul_le hb]; omega
    by_cases h2 : r < bin
    · simp only [val, mag, up, h2, h1, if_true, if_false]
      have : 0 < 2 ^ (q / bin - 1) := Nat.two_pow_pos _
      have h3 : bin * 1 ≤ (bin + q % bin) * 2 ^ (q / bin - 1) := Nat.mul_le_mul (by omega) this
      simp
      omega
    · have hr1 : 1 ≤ r / bin := by
        rw [Nat.le_div_iff_mul_le hb]; omega
      simp only [val, mag, up, h2, h1, if_false]
      have hle : r / bin ≤ q / bin := Nat.div_le_div_right (by omega)
      by_cases h3 : r / bin = q / bin
      · rw [h3] at dr ⊢
        exact Nat.mul_lt_mul_of_pos_right (by omega) (Nat.two_pow_pos _)
      · have h4 : (bin + r % bin) * 2 ^ (r / bin - 1) < (bin + bin) * 2 ^ (r / bin - 1) := Nat.mul_lt_mul_of_pos_right (by omega) (Nat.two_pow_pos _)
        have h5 : (bin + bin) * 2 ^ (r / bin - 1) = bin * 2 ^ (r / bin) := by
          rw [← Nat.mul_two, Nat.mul_assoc, ← Nat.pow_succ', Nat.succ_eq_add_one, Nat.sub_add_cancel hr1]
        have h6 : bin * 2 ^ (r / bin) ≤ bin * 2 ^ (q / bin - 1) := Nat.mul_le_mul_left _ (Nat.pow_le_pow_right (by decide) (by omega))
        have h7 : bin * 2 ^ (q / bin - 1) ≤ (bin + q % bin) * 2 ^ (q / bin - 1) := Nat.mul_le_mul_right _ (by omega)
        omega

theorem val_zero : val 0 = 0 := by decide

theorem val_cmp (s t : Bool) (r q : Nat) : compare (sg s (val r)) (sg t (val q)) = compare (sg s r) (sg t q) := by
  have h0 := val_zero
  have hp : ∀ n, 0 < n → 0 < val n := fun n h => by have := val_lt h; omega
  rw [cmp_eq, cmp_eq]
  rcases Nat.lt_trichotomy r q with h | h | h
  · have h1 := val_lt h
    have h2 : 0 < val q := by omega
    cases s <;> cases t <;> simp only [sg, if_true, if_false, Bool.false_eq_true]
    · rw [if_pos (by omega), if_pos (by omega)]
    · rw [if_neg (by omega), if_neg (by omega), if_neg (by omega), if_neg (by omega)]
    · rw [if_pos (by omega), if_pos (by omega)]
    · rw [if_neg (by omega), if_neg (by omega), if_neg (by omega), if_neg (by omega)]
  · subst h
    by_cases hz : r = 0
    · subst hz; rw [h0]
    · have h2 := hp r (by omega)
      cases s <;> cases t <;> simp only [sg, if_true, if_false, Bool.false_eq_true]
      · simp
      · rw [if_neg (by omega), if_neg (by omega), if_neg (by omega), if_neg (by omega)]
      · rw [if_pos (by omega), if_pos (by omega)]
      · simp
  · have h1 := val_lt h
    cases s <;> cases t <;> simp only [sg, if_true, if_false, Bool.false_eq_true]
    · rw [if_neg (by omega), if_neg (by omega), if_neg (by omega), if_neg (by omega)]
    · rw [if_neg (by omega), if_neg (by omega), if_neg (by omega), if_neg (by omega)]
    · rw [if_pos (by omega), if_pos (by omega)]
    · rw [if_pos (by omega), if_pos (by omega)]

theorem binade_eq : double.binade = bin := rfl
theorem infRung_eq : double.infRung = inf := by decide
theorem weight_eq : double.signWeight = half := by decide

theorem read_number (b : Nat) (h : rung b < inf) : double.read b = .number (b / half % 2 == 1) (mag (rung b)) (double.leastPlace + up (rung b)) := by
  unfold Format.read
  rw [weight_eq, binade_eq, infRung_eq]
  show (if b % half < bin then _ else _) = _
  unfold rung at *
  by_cases h1 : b % half < bin
  · rw [if_pos h1]
    simp [mag, up, h1]
  · rw [if_neg h1, if_pos h]
    simp [mag, up, h1]
theorem read_inf (b : Nat) (h : rung b = inf) : double.read b = .infinity (b / half % 2 == 1) := by
  unfold Format.read
  rw [weight_eq, binade_eq, infRung_eq]
  show (if b % half < bin then _ else _) = _
  unfold rung at h
  rw [h, if_neg (by decide), if_neg (by decide), if_pos rfl]
theorem read_nan (b : Nat) (h : inf < rung b) : ∃ s f, double.read b = .nan s f := by
  unfold Format.read
  rw [weight_eq, binade_eq, infRung_eq]
  unfold rung at h
  refine ⟨b / half % 2 == 1, b % half - inf, ?_⟩
  show (if b % half < bin then _ else _) = _
  have hb : bin < inf := by decide
  rw [if_neg (by omega), if_neg (by omega), if_neg (by omega)]

theorem sign_eq (b : Nat) (h : b < 18446744073709551616) : (b / half % 2 == 1) = neg b := by
  unfold neg half
  by_cases h1 : 9223372036854775808 ≤ b
  · have : b / 9223372036854775808 = 1 := by omega
    simp [this, h1]
  · have : b / 9223372036854775808 = 0 := by omega
    simp [this, h1]

theorem sv_eq (b : Nat) : sv b = sg (neg b) (rung b) := by
  unfold sv sg neg
  by_cases h : half ≤ b <;> simp [h]

/-- How two words stand to each other. -/
theorem order_eq (x y : Nat) (hx : x < 18446744073709551616) (hy : y < 18446744073709551616) :
    double.order x y = if nan x = true ∨ nan y = true then none else some (compare (sv x) (sv y)) := by
  unfold Format.order
  by_cases hnx : inf < rung x
  · obtain ⟨s, f, e⟩ := read_nan x hnx
    rw [e, if_pos (.inl (by simp [nan, hnx]))]
    cases double.read y <;> rfl
  by_cases hny : inf < rung y
  · obtain ⟨s, f, e⟩ := read_nan y hny
    rw [e, if_pos (.inr (by simp [nan, hny]))]
    cases double.read x <;> rfl
  rw [if_neg (by simp [nan, hnx, hny]), sv_eq, sv_eq]
  rcases Nat.lt_or_ge (rung x) inf with h1 | h1
  · rcases Nat.lt_or_ge (rung y) inf with h2 | h2
    · rw [read_number x h1, read_number y h2, order_number, sign_eq x hx, sign_eq y hy]
      congr 1
      have e1 : ∀ s r, sg s (mag r) * ((2 ^ up r : Nat) : Int) = sg s (val r) := by
        intro s r
        unfold sg val
        cases s <;> simp [Int.neg_mul]
      rw [e1, e1, val_cmp]
    · rw [read_number x h1, read_inf y (by omega), sign_eq x hx, sign_eq y hy]
      show some _ = some _
      congr 1
      rw [cmp_eq, show rung y = inf from by omega]
      cases neg x <;> cases neg y <;> simp only [sg, if_true, if_false, Bool.false_eq_true]
      · rw [if_pos (by omega)]
      · rw [if_neg (by omega), if_neg (by omega)]
      · rw [if_pos (by have : 0 < inf := by decide
                       omega)]
      · rw [if_neg (by omega), if_neg (by omega)]
  · rcases Nat.lt_or_ge (rung y) inf with h2 | h2
    · rw [read_inf x (by omega), read_number y h2, sign_eq x hx, sign_eq y hy]
      show some _ = some _
      congr 1
      rw [cmp_eq, show rung x = inf from by omega]
      cases neg x <;> cases neg y <;> simp only [sg, if_true, if_false, Bool.false_eq_true]
      · rw [if_neg (by omega), if_neg (by omega)]
      · rw [if_neg (by omega), if_neg (by have : 0 < inf := by decide
                                          omega)]
      · rw [if_pos (by omega)]
      · rw [if_pos (by omega)]
    · rw [read_inf x (by omega), read_inf y (by omega), sign_eq x hx, sign_eq y hy]
      show some _ = some _
      congr 1
      rw [show rung x = inf from by omega, show rung y = inf from by omega]
      cases neg x <;> cases neg y <;> decide
end Go.Proofs.Ytmfcbjjjehbpkaa.Fl
