/- Plain facts on 32-bit checks: a step is a linear bijection, a byte's table entry is eight steps. No program in sight. -/
namespace Go.Proofs.Ytggbmcmajdbkhaa.Crc

def poly : BitVec 32 := 3988292384#32
def step (c : BitVec 32) : BitVec 32 := (c >>> 1) ^^^ (poly &&& -(c &&& 1#32))

theorem step_eq (c : BitVec 32) : step c = (c >>> 1) ^^^ (if c.getLsbD 0 then poly else 0#32) := by
  unfold step
  have h : c &&& 1#32 = if c.getLsbD 0 then 1#32 else 0#32 := by
    apply BitVec.eq_of_getLsbD_eq
    intro i hi
    have h1 : (1#32).getLsbD i = decide (i = 0) := by
      have : ∀ j : Fin 32, (1#32).getLsbD j = decide (j.val = 0) := by decide
      exact this ⟨i, hi⟩
    rw [BitVec.getLsbD_and, h1]
    cases hc : c.getLsbD 0
    · by_cases h0 : i = 0
      · subst h0; rw [hc]; rfl
      · simp [h0]
    · by_cases h0 : i = 0
      · subst h0; rw [hc]; rfl
      · simp [h0]
  rw [h]
  cases c.getLsbD 0
  · simp
  · simp only [if_true]
    rw [show -(1#32) = BitVec.allOnes 32 from rfl, BitVec.and_allOnes]

theorem step_xor (a b : BitVec 32) : step (a ^^^ b) = step a ^^^ step b := by
  rw [step_eq, step_eq, step_eq, BitVec.ushiftRight_xor_distrib]
  rw [show (a ^^^ b).getLsbD 0 = (a.getLsbD 0 ^^ b.getLsbD 0) from BitVec.getLsbD_xor]
  apply BitVec.eq_of_getLsbD_eq
  intro i hi
  cases a.getLsbD 0 <;> cases b.getLsbD 0 <;> simp only [BitVec.getLsbD_xor, Bool.xor_true, Bool.xor_false, Bool.not_true, Bool.not_false, if_true, if_false, Bool.false_eq_true, BitVec.getLsbD_zero] <;> generalize (a >>> 1).getLsbD i = x <;> generalize (b >>> 1).getLsbD i = y <;> generalize poly.getLsbD i = z <;> cases x <;> cases y <;> cases z <;> rfl

theorem step_zero : step 0#32 = 0#32 := by decide

theorem step_eq_zero (d : BitVec 32) (h : step d = 0#32) : d = 0#32 := by
  rw [step_eq] at h
  cases hd : d.getLsbD 0
  · rw [hd] at h
    simp only [Bool.false_eq_true, if_false, BitVec.xor_zero] at h
    apply BitVec.eq_of_getLsbD_eq
    intro i hi
    by_cases h0 : i = 0
    · subst h0; rw [hd]; simp
    · have := congrArg (fun v => v.getLsbD (i - 1)) h
      simp only [BitVec.getLsbD_ushiftRight, BitVec.getLsbD_zero] at this
      rw [show 1 + (i - 1) = i from by omega] at this
      rw [this]; simp
  · rw [hd] at h
    have := congrArg (fun v => v.getLsbD 31) h
    simp [poly] at this

theorem xor_eq_zero {n : Nat} {a b : BitVec n} (h : a ^^^ b = 0#n) : a = b := by
  have : a ^^^ b ^^^ b = 0#n ^^^ b := by rw [h]
  simpa [BitVec.xor_assoc] using this

theorem step_inj {a b : BitVec 32} (h : step a = step b) : a = b := by
  apply xor_eq_zero
  apply step_eq_zero
  rw [step_xor, h, BitVec.xor_self]

def steps : Nat → BitVec 32 → BitVec 32
  | 0, c => c
  | n + 1, c => steps n (step c)

theorem steps_succ (n : Nat) (c : BitVec 32) : steps (n + 1) c = step (steps n c) := by
  induction n generalizing c with
  | zero => rfl
  | succ n ih => rw [steps, ih (step c)]; rfl

theorem steps_add (m n : Nat) (c : BitVec 32) : steps (m + n) c = steps n (steps m c) := by
  induction m generalizing c with
  | zero => simp [steps]
  | succ m ih => rw [Nat.succ_add, steps, ih]; rfl

theorem steps_xor (n : Nat) (a b : BitVec 32) : steps n (a ^^^ b) = steps n a ^^^ steps n b := by
  induction n generalizing a b with
  | zero => rfl
  | succ n ih => rw [steps, steps, steps, step_xor, ih]

theorem steps_zero (n : Nat) : steps n 0#32 = 0#32 := by
  induction n with
  | zero => rfl
  | succ n ih => rw [steps, step_zero, ih]

theorem steps_inj {n : Nat} {a b : BitVec 32} (h : steps n a = steps n b) : a = b := by
  induction n generalizing a b with
  | zero => exact h
  | succ n ih => exact step_inj (ih h)

/-- Steps over what stands high. -/
theorem step_shift (y : BitVec 32) (k : Nat) (hk : k < 31) (hy : y.toNat < 2 ^ (31 - k)) : step (y <<< (k + 1)) = y <<< k := by
  rw [step_eq]
  have h0 : (y <<< (k + 1)).getLsbD 0 = false := by simp
  rw [h0]
  simp only [Bool.false_eq_true, if_false, BitVec.xor_zero]
  apply BitVec.eq_of_getLsbD_eq
  intro i hi
  rw [BitVec.getLsbD_ushiftRight, BitVec.getLsbD_shiftLeft, BitVec.getLsbD_shiftLeft]
  by_cases h : i < k
  · simp [h, show 1 + i < k + 1 from by omega]
  · simp only [h, show ¬ 1 + i < k + 1 from by omega, decide_false, Bool.not_false, Bool.and_true, hi, decide_true, Bool.true_and]
    rw [show 1 + i - (k + 1) = i - k from by omega]
    by_cases h2 : 1 + i < 32
    · simp [h2]
    · have : y.getLsbD (i - k) = false := by
        rw [BitVec.getLsbD]
        apply Nat.testBit_lt_two_pow
        exact Nat.lt_of_lt_of_le hy (Nat.pow_le_pow_right (by decide) (by omega))
      simp [h2, this]

theorem steps_shift (n : Nat) (y : BitVec 32) (hn : n < 32) (hy : y.toNat < 2 ^ (32 - n)) : steps n (y <<< n) = y := by
  induction n with
  | zero => simp [steps]
  | succ n ih =>
    rw [steps, step_shift y n (by omega) (Nat.lt_of_lt_of_le hy (Nat.pow_le_pow_right (by decide) (by omega)))]
    exact ih (by omega) (Nat.lt_of_lt_of_le hy (Nat.pow_le_pow_right (by decide) (by omega)))

/-- The table's entry of a byte. -/
def tab (i : Nat) : BitVec 32 := steps 8 (BitVec.ofNat 32 i)

/-- A check with a byte more. -/
def byte (c b : BitVec 32) : BitVec 32 := steps 8 (c ^^^ b)

theorem low_high (x : BitVec 32) : x = ((x >>> 8) <<< 8) ^^^ (x &&& 255#32) := by
  apply BitVec.eq_of_getLsbD_eq
  intro i hi
  rw [BitVec.getLsbD_xor, BitVec.getLsbD_shiftLeft, BitVec.getLsbD_ushiftRight, BitVec.getLsbD_and]
  have h255 : (255#32).getLsbD i = decide (i < 8) := by
    have : ∀ j : Fin 32, (255#32).getLsbD j = decide (j.val < 8) := by decide
    exact this ⟨i, hi⟩
  rw [h255]
  by_cases h : i < 8
  · simp [h]
  · simp [h, hi, show 8 + (i - 8) = i from by omega]

theorem byte_tab (c b : BitVec 32) (hb : b.toNat < 256) : (c >>> 8) ^^^ tab (((c ^^^ b) &&& 255#32).toNat) = byte c b := by
  unfold byte tab
  rw [show BitVec.ofNat 32 ((c ^^^ b) &&& 255#32).toNat = (c ^^^ b) &&& 255#32 from by simp]
  have e : steps 8 (c ^^^ b) = steps 8 ((((c ^^^ b) >>> 8) <<< 8) ^^^ ((c ^^^ b) &&& 255#32)) := by rw [← low_high]
  rw [e, steps_xor]
  have hb8 : b >>> 8 = 0#32 := by
    apply BitVec.eq_of_toNat_eq
    rw [BitVec.toNat_ushiftRight, Nat.shiftRight_eq_div_pow]
    simp; omega
  have : steps 8 (((c ^^^ b) >>> 8) <<< 8) = (c ^^^ b) >>> 8 := by
    apply steps_shift 8 _ (by decide)
    rw [BitVec.toNat_ushiftRight, Nat.shiftRight_eq_div_pow]
    have := (c ^^^ b).isLt
    omega
  rw [this, BitVec.ushiftRight_xor_distrib, hb8, BitVec.xor_zero]

theorem byte_xor (c d a b : BitVec 32) : byte (c ^^^ d) (a ^^^ b) = byte c a ^^^ byte d b := by
  unfold byte
  rw [← steps_xor]
  congr 1
  apply BitVec.eq_of_getLsbD_eq
  intro i _
  simp only [BitVec.getLsbD_xor]
  generalize c.getLsbD i = x; generalize d.getLsbD i = y; generalize a.getLsbD i = z; generalize b.getLsbD i = u
  cases x <;> cases y <;> cases z <;> cases u <;> rfl

theorem xor_cancel_left {n : Nat} {a b c : BitVec n} (h : a ^^^ b = a ^^^ c) : b = c := by
  have : a ^^^ (a ^^^ b) = a ^^^ (a ^^^ c) := by rw [h]
  simpa [← BitVec.xor_assoc] using this
theorem xor_cancel_right {n : Nat} {a b c : BitVec n} (h : b ^^^ a = c ^^^ a) : b = c := by
  rw [BitVec.xor_comm b, BitVec.xor_comm c] at h
  exact xor_cancel_left h

theorem byte_inj {c d b : BitVec 32} (h : byte c b = byte d b) : c = d := xor_cancel_right (steps_inj h)
theorem byte_inj' {c a b : BitVec 32} (h : byte c a = byte c b) : a = b := xor_cancel_left (steps_inj h)

/-- The byte of a word that is so many bits high. -/
def piece (w : BitVec 64) (s : Nat) : BitVec 32 := (BitVec.ofNat 32 ((w.toNat / 2 ^ s) % 256))

/-- A check with a word's bytes more, from so many on down. -/
def bytes (c : BitVec 32) (w : BitVec 64) : Nat → BitVec 32
  | 0 => c
  | n + 1 => bytes (byte c (piece w (8 * n))) w n

def word (c : BitVec 32) (w : BitVec 64) : BitVec 32 := bytes c w 8

theorem piece_xor (w v : BitVec 64) (s : Nat) : piece (w ^^^ v) s = piece w s ^^^ piece v s := by
  apply BitVec.eq_of_getLsbD_eq
  intro i hi
  have : ∀ u : BitVec 64, (piece u s).getLsbD i = (decide (i < 8) && u.getLsbD (s + i)) := by
    intro u
    unfold piece
    rw [BitVec.getLsbD_ofNat]
    rw [show (256 : Nat) = 2 ^ 8 from rfl, Nat.testBit_mod_two_pow, Nat.testBit_div_two_pow, BitVec.getLsbD]
    simp [hi, Nat.add_comm]
  rw [BitVec.getLsbD_xor, this, this, this, BitVec.getLsbD_xor]
  cases decide (i < 8) <;> simp

theorem bytes_xor (n : Nat) (c d : BitVec 32) (w v : BitVec 64) : bytes (c ^^^ d) (w ^^^ v) n = bytes c w n ^^^ bytes d v n := by
  induction n generalizing c d with
  | zero => rfl
  | succ n ih => rw [bytes, bytes, bytes, piece_xor, byte_xor, ih]

theorem word_xor (c d : BitVec 32) (w v : BitVec 64) : word (c ^^^ d) (w ^^^ v) = word c w ^^^ word d v := bytes_xor 8 c d w v

theorem bytes_inj (n : Nat) {c d : BitVec 32} {w : BitVec 64} (h : bytes c w n = bytes d w n) : c = d := by
  induction n generalizing c d with
  | zero => exact h
  | succ n ih => exact byte_inj (ih h)

theorem word_inj {c d : BitVec 32} {w : BitVec 64} (h : word c w = word d w) : c = d := bytes_inj 8 h

def all (c : BitVec 32) : List (BitVec 64) → BitVec 32
  | [] => c
  | w :: l => all (word c w) l

theorem all_append (c : BitVec 32) (a b : List (BitVec 64)) : all c (a ++ b) = all (all c a) b := by
  induction a generalizing c with
  | nil => rfl
  | cons w a ih => simp [all, ih]

theorem all_inj {c d : BitVec 32} {l : List (BitVec 64)} (h : all c l = all d l) : c = d := by
  induction l generalizing c d with
  | nil => exact h
  | cons w l ih => exact word_inj (ih h)

theorem all_xor (c d : BitVec 32) (a b : List (BitVec 64)) (h : a.length = b.length) : all (c ^^^ d) (List.zipWith (· ^^^ ·) a b) = all c a ^^^ all d b := by
  induction a generalizing b c d with
  | nil => cases b with
    | nil => rfl
    | cons x b => cases h
  | cons w a ih => cases b with
    | nil => cases h
    | cons x b =>
      simp only [List.zipWith_cons_cons, all]
      rw [word_xor, ih _ _ _ (by simpa using h)]

/-! Four bytes into nothing are told by what comes out. -/

theorem zext (b : BitVec 32) (hb : b.toNat < 256) (i : Nat) (hi : 8 ≤ i) : b.getLsbD i = false := by
  rw [BitVec.getLsbD]
  exact Nat.testBit_lt_two_pow (Nat.lt_of_lt_of_le (show b.toNat < 2 ^ 8 from hb) (Nat.pow_le_pow_right (by decide) hi))

theorem byte_in (x b : BitVec 32) (hb : b.toNat < 256) : steps 8 x ^^^ b = steps 8 (x ^^^ b <<< 8) := by
  rw [steps_xor, steps_shift 8 b (by decide) (by omega)]

theorem join_zero (a b c d : BitVec 32) (ha : a.toNat < 256) (hb : b.toNat < 256) (hc : c.toNat < 256) (hd : d.toNat < 256)
    (h : ((a ^^^ b <<< 8) ^^^ c <<< 16) ^^^ d <<< 24 = 0#32) : a = 0#32 ∧ b = 0#32 ∧ c = 0#32 ∧ d = 0#32 := by
  have g : ∀ i, i < 32 → ((a.getLsbD i ^^ (!decide (i < 8) && b.getLsbD (i - 8))) ^^ (!decide (i < 16) && c.getLsbD (i - 16)) ^^ (!decide (i < 24) && d.getLsbD (i - 24))) = false := by
    intro i hi
    have := congrArg (fun v => v.getLsbD i) h
    simp only [BitVec.getLsbD_xor, BitVec.getLsbD_shiftLeft, BitVec.getLsbD_zero, hi, decide_true, Bool.true_and] at this
    exact this
  refine ⟨?_, ?_, ?_, ?_⟩ <;> apply BitVec.eq_of_getLsbD_eq <;> intro i hi <;> rw [BitVec.getLsbD_zero]
  · by_cases h8 : i < 8
    · have := g i hi
      simpa [h8, show i < 16 from by omega, show i < 24 from by omega] using this
    · exact zext a ha i (by omega)
  · by_cases h8 : i < 8
    · have := g (i + 8) (by omega)
      rw [zext a ha (i + 8) (by omega)] at this
      simpa [show ¬ i + 8 < 8 from by omega, show i + 8 < 16 from by omega, show i + 8 < 24 from by omega] using this
    · exact zext b hb i (by omega)
  · by_cases h8 : i < 8
    · have := g (i + 16) (by omega)
      rw [zext a ha (i + 16) (by omega), zext b hb (i + 16 - 8) (by omega)] at this
      simpa [show ¬ i + 16 < 8 from by omega, show ¬ i + 16 < 16 from by omega, show i + 16 < 24 from by omega] using this
    · exact zext c hc i (by omega)
  · by_cases h8 : i < 8
    · have := g (i + 24) (by omega)
      rw [zext a ha (i + 24) (by omega), zext b hb (i + 24 - 8) (by omega), zext c hc (i + 24 - 16) (by omega)] at this
      simpa [show ¬ i + 24 < 8 from by omega, show ¬ i + 24 < 16 from by omega, show ¬ i + 24 < 24 from by omega] using this
    · exact zext d hd i (by omega)

theorem four_join (a b c d : BitVec 32) (hb : b.toNat < 256) (hc : c.toNat < 256) (hd : d.toNat < 256) :
    byte (byte (byte (byte 0#32 a) b) c) d = steps 32 (((a ^^^ b <<< 8) ^^^ c <<< 16) ^^^ d <<< 24) := by
  have sh : ∀ (x b : BitVec 32) (n : Nat), n < 32 → b.toNat < 2 ^ (32 - n) → steps n x ^^^ b = steps n (x ^^^ b <<< n) := by
    intro x b n hn hb
    rw [steps_xor, steps_shift n b hn hb]
  unfold byte
  rw [BitVec.zero_xor]
  rw [sh a b 8 (by decide) (by omega), ← steps_add 8 8, sh _ c 16 (by decide) (by omega), ← steps_add 16 8, sh _ d 24 (by decide) (by omega), ← steps_add 24 8]

theorem four_zero (a b c d : BitVec 32) (ha : a.toNat < 256) (hb : b.toNat < 256) (hc : c.toNat < 256) (hd : d.toNat < 256)
    (h : byte (byte (byte (byte 0#32 a) b) c) d = 0#32) : a = 0#32 ∧ b = 0#32 ∧ c = 0#32 ∧ d = 0#32 := by
  rw [four_join a b c d hb hc hd] at h
  exact join_zero a b c d ha hb hc hd (steps_inj (h.trans (steps_zero 32).symm))

theorem piece_lt (w : BitVec 64) (s : Nat) : (piece w s).toNat < 256 := by
  unfold piece
  rw [BitVec.toNat_ofNat]
  have : w.toNat / 2 ^ s % 256 < 256 := Nat.mod_lt _ (by decide)
  omega

theorem piece_eq_zero {w : BitVec 64} {s : Nat} (h : piece w s = 0#32) : w.toNat / 2 ^ s % 256 = 0 := by
  have := congrArg BitVec.toNat h
  unfold piece at this
  rw [BitVec.toNat_ofNat] at this
  have : w.toNat / 2 ^ s % 256 < 256 := Nat.mod_lt _ (by decide)
  simp at *
  omega

theorem byte_zero_zero : byte 0#32 0#32 = 0#32 := by unfold byte; rw [BitVec.xor_self, steps_zero]

/-- A word of which one half is nothing, and the other one is not, gives something. -/
theorem word_low (n : Nat) (h0 : 0 < n) (h1 : n < 2 ^ 32) : word 0#32 (BitVec.ofNat 64 n) ≠ 0#32 := by
  intro h
  have ht : (BitVec.ofNat 64 n).toNat = n := by rw [BitVec.toNat_ofNat]; omega
  have hz : ∀ s, 32 ≤ s → s < 64 → piece (BitVec.ofNat 64 n) s = 0#32 := by
    intro s hs _
    unfold piece
    rw [ht, Nat.div_eq_of_lt (Nat.lt_of_lt_of_le h1 (Nat.pow_le_pow_right (by decide) hs))]
  simp only [word, bytes, Nat.reduceMul] at h
  rw [hz 56 (by decide) (by decide), hz 48 (by decide) (by decide), hz 40 (by decide) (by decide), hz 32 (by decide) (by decide)] at h
  simp only [byte_zero_zero] at h
  obtain ⟨a, b, c, d⟩ := four_zero _ _ _ _ (piece_lt _ _) (piece_lt _ _) (piece_lt _ _) (piece_lt _ _) h
  have a := piece_eq_zero a
  have b := piece_eq_zero b
  have c := piece_eq_zero c
  have d := piece_eq_zero d
  rw [ht] at a b c d
  omega

theorem word_high (n : Nat) (h0 : 0 < n) (h1 : n < 2 ^ 32) : word 0#32 (BitVec.ofNat 64 (n * 4294967296)) ≠ 0#32 := by
  intro h
  have ht : (BitVec.ofNat 64 (n * 4294967296)).toNat = n * 4294967296 := by rw [BitVec.toNat_ofNat]; omega
  have hz : ∀ s, s ≤ 24 → piece (BitVec.ofNat 64 (n * 4294967296)) s = 0#32 := by
    intro s hs
    unfold piece
    rw [ht]
    have : n * 4294967296 / 2 ^ s % 256 = 0 := by
      have e : (4294967296 : Nat) = 2 ^ s * (256 * 2 ^ (24 - s)) := by
        rw [show (256 : Nat) = 2 ^ 8 from rfl, ← Nat.pow_add, ← Nat.pow_add, show s + (8 + (24 - s)) = 32 from by omega]
      rw [e, ← Nat.mul_assoc, Nat.mul_comm n, Nat.mul_assoc, Nat.mul_div_cancel_left _ (Nat.two_pow_pos s)]
      rw [← Nat.mul_assoc, Nat.mul_comm n 256, Nat.mul_assoc]
      exact Nat.mul_mod_right 256 _
    rw [this]
  simp only [word, bytes, Nat.reduceMul] at h
  rw [hz 24 (by decide), hz 16 (by decide), hz 8 (by decide), hz 0 (by decide)] at h
  have e0 : byte (byte (byte (byte 0#32 0#32) 0#32) 0#32) 0#32 = 0#32 := by simp only [byte_zero_zero]
  have h2 := byte_inj (byte_inj (byte_inj (byte_inj (h.trans e0.symm))))
  obtain ⟨a, b, c, d⟩ := four_zero _ _ _ _ (piece_lt _ _) (piece_lt _ _) (piece_lt _ _) (piece_lt _ _) h2
  have a := piece_eq_zero a
  have b := piece_eq_zero b
  have c := piece_eq_zero c
  have d := piece_eq_zero d
  rw [ht] at a b c d
  omega

/-- What a word is turned by tells what its check is turned by. -/
theorem word_turn (c : BitVec 32) (w v : BitVec 64) : word c (w ^^^ v) = word c w ^^^ word 0#32 v := by
  have := word_xor c 0#32 w v
  rwa [BitVec.xor_zero] at this

end Go.Proofs.Ytggbmcmajdbkhaa.Crc
