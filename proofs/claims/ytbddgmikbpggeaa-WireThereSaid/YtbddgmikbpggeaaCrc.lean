/- The sum of bytes, bit by bit and by a table: plain laws, no program in sight. -/
namespace Go.Proofs.Ytbddgmikbpggeaa
set_option linter.unusedVariables false
set_option linter.unusedSimpArgs false

def poly : BitVec 32 := 79764919#32
/-- A bit goes out at the top. -/
def crcStep (v : BitVec 32) : BitVec 32 := (v <<< 1) ^^^ (if v.msb then poly else 0#32)
def crcSteps : Nat → BitVec 32 → BitVec 32
  | 0, v => v
  | k + 1, v => crcStep (crcSteps k v)
/-- What a byte makes of the highest eight bits. -/
def crcRow (x : Nat) : BitVec 32 := crcSteps 8 (BitVec.ofNat 32 (x * 16777216))
/-- A byte more, by the table. -/
def crcByte (v : BitVec 32) (x : Nat) : BitVec 32 := (v <<< 8) ^^^ crcRow ((v >>> 24).toNat ^^^ x)
/-- A byte more, bit by bit. -/
def crcBits (v : BitVec 32) (x : Nat) : BitVec 32 := crcSteps 8 (v ^^^ BitVec.ofNat 32 (x * 16777216))
def crcOf (l : List Nat) : BitVec 32 := l.foldl crcByte (BitVec.allOnes 32)
/-- The sum. -/
def crc (l : List Nat) : Nat := (~~~ (crcOf l)).toNat

theorem crcStep_xor (a b : BitVec 32) : crcStep (a ^^^ b) = crcStep a ^^^ crcStep b := by
  unfold crcStep
  rw [BitVec.shiftLeft_xor_distrib, BitVec.msb_xor]
  generalize a <<< 1 = x
  generalize b <<< 1 = y
  cases a.msb <;> cases b.msb
  all_goals
    apply BitVec.eq_of_getLsbD_eq
    intro i hi
    simp only [BitVec.getLsbD_xor, Bool.xor_false, Bool.false_xor, Bool.xor_true, if_true, Bool.false_eq_true, if_false, BitVec.getLsbD_zero, Bool.not_true, Bool.not_false]
    try (cases x.getLsbD i <;> cases y.getLsbD i <;> cases poly.getLsbD i <;> rfl)
theorem crcSteps_xor (k : Nat) (a b : BitVec 32) : crcSteps k (a ^^^ b) = crcSteps k a ^^^ crcSteps k b := by
  induction k with
  | zero => rfl
  | succ k ih => simp only [crcSteps, ih, crcStep_xor]
theorem crcSteps_low (k : Nat) (a : BitVec 32) (h : a.toNat * 2 ^ k < 4294967296) : crcSteps k a = a <<< k := by
  induction k with
  | zero => simp [crcSteps]
  | succ k ih =>
    have h0 : a.toNat * 2 ^ k < 2147483648 := by rw [Nat.pow_succ, ← Nat.mul_assoc] at h; omega
    rw [crcSteps, ih (by omega), crcStep]
    have hm : (a <<< k).msb = false := by
      rw [BitVec.msb_eq_decide]
      simp only [decide_eq_false_iff_not, Nat.not_le]
      rw [BitVec.toNat_shiftLeft, Nat.shiftLeft_eq, Nat.mod_eq_of_lt (by omega)]
      exact h0
    rw [hm]
    simp [BitVec.shiftLeft_add]

theorem split8 (v : BitVec 32) : v = BitVec.ofNat 32 ((v >>> 24).toNat * 16777216) ^^^ (v &&& 0xffffff#32) := by
  apply BitVec.eq_of_getLsbD_eq
  intro i hi
  simp only [BitVec.getLsbD_xor, BitVec.getLsbD_and, BitVec.getLsbD_ofNat, BitVec.toNat_ushiftRight]
  rw [show (16777216 : Nat) = 2 ^ 24 from rfl, ← Nat.shiftLeft_eq, Nat.testBit_shiftLeft, Nat.testBit_shiftRight]
  have hmask : (0xffffff : Nat).testBit i = decide (i < 24) := by
    rw [show (0xffffff : Nat) = 2 ^ 24 - 1 from rfl, Nat.testBit_two_pow_sub_one]
  rw [hmask]
  by_cases h : i < 24
  · simp [h, hi, show ¬ 24 ≤ i by omega]
  · simp [h, hi, show 24 ≤ i by omega, show 24 + (i - 24) = i by omega, BitVec.getLsbD]

theorem crcByte_eq (v : BitVec 32) (x : Nat) : crcByte v x = crcBits v x := by
  unfold crcByte crcBits crcRow
  have hlow : ((v &&& 0xffffff#32)).toNat < 16777216 := by
    rw [BitVec.toNat_and]
    exact Nat.and_lt_two_pow _ (n := 24) (by decide)
  have e : v ^^^ BitVec.ofNat 32 (x * 16777216) = BitVec.ofNat 32 (((v >>> 24).toNat ^^^ x) * 16777216) ^^^ (v &&& 0xffffff#32) := by
    have hm : ((v >>> 24).toNat ^^^ x) * 16777216 = ((v >>> 24).toNat * 16777216) ^^^ (x * 16777216) := by
      rw [show (16777216 : Nat) = 2 ^ 24 from rfl, ← Nat.shiftLeft_eq, ← Nat.shiftLeft_eq, ← Nat.shiftLeft_eq, Nat.shiftLeft_xor_distrib]
    have hof : ∀ p q : Nat, BitVec.ofNat 32 (p ^^^ q) = BitVec.ofNat 32 p ^^^ BitVec.ofNat 32 q := by
      intro p q
      apply BitVec.eq_of_getLsbD_eq
      intro i hi
      simp
    rw [hm, hof]
    conv => lhs; rw [split8 v]
    rw [BitVec.xor_assoc, BitVec.xor_assoc]
    congr 1
    rw [BitVec.xor_comm]
  rw [e, crcSteps_xor, crcSteps_low 8 (v &&& 0xffffff#32) (by omega), BitVec.xor_comm]
  congr 1
  apply BitVec.eq_of_getLsbD_eq
  intro i hi
  simp only [BitVec.getLsbD_shiftLeft, BitVec.getLsbD_and, BitVec.getLsbD_ofNat]
  have hmask : (0xffffff : Nat).testBit (i - 8) = decide (i - 8 < 24) := by
    rw [show (0xffffff : Nat) = 2 ^ 24 - 1 from rfl, Nat.testBit_two_pow_sub_one]
  rw [hmask]
  by_cases h : i < 8
  · simp [h]
  · simp [h, hi, show i - 8 < 24 by omega, show i - 8 < 32 by omega]

/-- A step, in numbers. -/
theorem crcStep_toNat (v : BitVec 32) : (crcStep v).toNat = if v.toNat / 2147483648 = 1 then (v.toNat * 2 % 4294967296) ^^^ 79764919 else v.toNat * 2 % 4294967296 := by
  have hv := v.isLt
  unfold crcStep
  rw [BitVec.msb_eq_decide]
  by_cases h : 2 ^ (32 - 1) ≤ v.toNat
  · have h1 : v.toNat / 2147483648 = 1 := by omega
    rw [if_pos h1]
    simp [h, BitVec.toNat_shiftLeft, Nat.shiftLeft_eq, poly]
  · have h1 : ¬ v.toNat / 2147483648 = 1 := by omega
    rw [if_neg h1]
    simp [h, BitVec.toNat_shiftLeft, Nat.shiftLeft_eq]

/-- A byte more, in numbers. -/
theorem crcByte_toNat (v : BitVec 32) (x : Nat) : (crcByte v x).toNat = (v.toNat * 256 % 4294967296) ^^^ (crcRow (v.toNat / 16777216 ^^^ x)).toNat := by
  unfold crcByte
  rw [BitVec.toNat_xor, BitVec.toNat_shiftLeft, BitVec.toNat_ushiftRight, Nat.shiftLeft_eq, Nat.shiftRight_eq_div_pow]
theorem crcOf_snoc (l : List Nat) (x : Nat) : crcOf (l ++ [x]) = crcByte (crcOf l) x := by simp [crcOf]
theorem crc_eq (l : List Nat) : crc l = 4294967295 - (crcOf l).toNat := by
  unfold crc
  rw [BitVec.toNat_not]
theorem crc_lt (l : List Nat) : crc l < 4294967296 := (~~~ (crcOf l)).isLt

/-- Bit i of a word, from the highest on. -/
def vbit (v : BitVec 32) (i : Nat) : Bool := v.getLsbD (31 - i)
theorem vbit_ones (i : Nat) (h : i < 32) : vbit (BitVec.allOnes 32) i = true := by
  unfold vbit
  rw [BitVec.getLsbD_allOnes]
  simp; omega
theorem vbit_byte (v : BitVec 32) (x i : Nat) (h : i < 32) (hx : x < 256) : vbit (v ^^^ BitVec.ofNat 32 (x * 16777216)) i = (vbit v i ^^ (decide (i ≤ 7) && x.testBit (7 - i))) := by
  unfold vbit
  rw [BitVec.getLsbD_xor, BitVec.getLsbD_ofNat, show (16777216 : Nat) = 2 ^ 24 from rfl, ← Nat.shiftLeft_eq, Nat.testBit_shiftLeft]
  congr 1
  by_cases h7 : i ≤ 7
  · simp [h7, show 31 - i < 32 by omega, show 24 ≤ 31 - i by omega, show 31 - i - 24 = 7 - i by omega]
  · simp [h7, show ¬ 24 ≤ 31 - i by omega]
theorem vbit_step (v : BitVec 32) (i : Nat) (h : i < 32) : vbit (crcStep v) i = ((if i < 31 then vbit v (i + 1) else false) ^^ (vbit v 0 && vbit poly i)) := by
  unfold vbit crcStep
  rw [BitVec.getLsbD_xor, BitVec.getLsbD_shiftLeft]
  have hm : v.msb = v.getLsbD 31 := by rw [BitVec.msb_eq_getLsbD_last]
  rw [hm]
  congr 1
  · by_cases h1 : i < 31
    · simp [h1, show 31 - i < 32 by omega, show ¬ 31 - i < 1 by omega, show 31 - i - 1 = 31 - (i + 1) by omega]
    · have : i = 31 := by omega
      subst this; simp
  · cases v.getLsbD (31 - 0) <;> simp_all
theorem vbit_poly (i : Nat) (h : i < 32) : vbit poly i = Nat.testBit 79764919 (31 - i) := by
  unfold vbit poly
  rw [BitVec.getLsbD_ofNat]
  simp; omega
theorem not_step (v : BitVec 32) (t : Nat) (ht : t < 32) : (~~~ v).toNat / 2 ^ (31 - t) = 2 * ((~~~ v).toNat / 2 ^ (32 - t)) + (if vbit v t then 0 else 1) := by
  have h1 : (~~~ v).toNat / 2 ^ (32 - t) = (~~~ v).toNat / 2 ^ (31 - t) / 2 := by
    rw [show 32 - t = (31 - t) + 1 by omega, Nat.pow_succ, Nat.div_div_eq_div_mul]
  have h2 : (~~~ v).toNat / 2 ^ (31 - t) % 2 = (if vbit v t then 0 else 1) := by
    have h3 := Nat.testBit_eq_decide_div_mod_eq (x := (~~~ v).toNat) (i := 31 - t)
    have h4 : (~~~ v).toNat.testBit (31 - t) = !(vbit v t) := by
      show (~~~ v).getLsbD (31 - t) = _
      rw [BitVec.getLsbD_not]
      simp [vbit]; omega
    rw [h4] at h3
    cases hv : vbit v t <;> simp [hv] at h3 ⊢ <;> omega
  omega

end Go.Proofs.Ytbddgmikbpggeaa
