/- Sealed bytes of which some bits are turned, all within 32 in a row, are not sealed any more: plain laws, no program in sight. -/
import Derived.Test.YtbddgmikbpggeaaCrc
namespace Go.Proofs.Ytbddgmikbpggeaa
set_option linter.unusedVariables false
set_option linter.unusedSimpArgs false

theorem crcStep_zero : crcStep 0#32 = 0#32 := by decide
theorem crcSteps_zero (k : Nat) : crcSteps k 0#32 = 0#32 := by
  induction k with
  | zero => rfl
  | succ k ih => rw [crcSteps, ih, crcStep_zero]
theorem crcSteps_comm (k : Nat) (v : BitVec 32) : crcSteps (k + 1) v = crcSteps k (crcStep v) := by
  induction k with
  | zero => rfl
  | succ k ih => rw [crcSteps, ih]; rfl
theorem crcSteps_add (j k : Nat) (v : BitVec 32) : crcSteps (j + k) v = crcSteps j (crcSteps k v) := by
  induction j with
  | zero => simp [crcSteps]
  | succ j ih => rw [Nat.succ_add, crcSteps, ih]; rfl
theorem crcStep_inj0 (v : BitVec 32) (h : crcStep v = 0#32) : v = 0#32 := by
  have h0 := congrArg (fun x => x.getLsbD 0) h
  simp only [crcStep, BitVec.getLsbD_xor, BitVec.getLsbD_shiftLeft, BitVec.getLsbD_zero] at h0
  have hp : poly.getLsbD 0 = true := by decide
  cases hm : v.msb with
  | true =>
    have hp2 : poly[0] = true := by decide
    rw [hm] at h0
    simp [hp2] at h0
  | false =>
    unfold crcStep at h
    rw [hm] at h
    simp only [Bool.false_eq_true, if_false, BitVec.xor_zero] at h
    apply BitVec.eq_of_getLsbD_eq
    intro i hi
    rw [BitVec.getLsbD_zero]
    by_cases h31 : i = 31
    · subst h31
      rw [BitVec.msb_eq_getLsbD_last] at hm
      exact hm
    · have h1 := congrArg (fun x => x.getLsbD (i + 1)) h
      simp only [BitVec.getLsbD_shiftLeft, BitVec.getLsbD_zero] at h1
      have h2 : i + 1 < 32 := by omega
      simpa [h2] using h1
theorem crcSteps_inj0 (k : Nat) (v : BitVec 32) (h : crcSteps k v = 0#32) : v = 0#32 := by
  induction k with
  | zero => exact h
  | succ k ih => exact ih (crcStep_inj0 _ h)

/-- A bit at the top. -/
def topBit (b : Bool) : BitVec 32 := if b then 0x80000000#32 else 0#32
/-- Bits come in, one by one. -/
def rawBits (v : BitVec 32) (bs : List Bool) : BitVec 32 := bs.foldl (fun v b => crcStep (v ^^^ topBit b)) v
theorem rawBits_append (v : BitVec 32) (a b : List Bool) : rawBits v (a ++ b) = rawBits (rawBits v a) b := by simp [rawBits]
theorem topBit_xor (a b : Bool) : topBit (a ^^ b) = topBit a ^^^ topBit b := by cases a <;> cases b <;> decide
theorem rawBits_xor (L : List Nat) (A B : Nat → Bool) : ∀ u v : BitVec 32, rawBits (u ^^^ v) (L.map fun j => (A j ^^ B j)) = rawBits u (L.map A) ^^^ rawBits v (L.map B) := by
  induction L with
  | nil => intro u v; rfl
  | cons j L ih =>
    intro u v
    simp only [List.map_cons, rawBits, List.foldl_cons]
    have e : u ^^^ v ^^^ topBit (A j ^^ B j) = (u ^^^ topBit (A j)) ^^^ (v ^^^ topBit (B j)) := by
      rw [topBit_xor]
      ac_rfl
    rw [e, crcStep_xor]
    exact ih _ _
theorem rawBits_zeros (L : List Nat) (B : Nat → Bool) (h : ∀ j ∈ L, B j = false) : ∀ v : BitVec 32, rawBits v (L.map B) = crcSteps L.length v := by
  induction L with
  | nil => intro v; rfl
  | cons j L ih =>
    intro v
    have h1 := ih (fun x hx => h x (by simp [hx])) (crcStep (v ^^^ topBit (B j)))
    simp only [List.map_cons, rawBits, List.foldl_cons] at h1 ⊢
    rw [h1, h j (by simp), List.length_cons, crcSteps_comm]
    simp [topBit]

/-- Bits as a word, the first one the highest. -/
def wordOf : List Bool → BitVec 32
  | [] => 0#32
  | b :: bs => topBit b ^^^ (wordOf bs >>> 1)
theorem topBit_get (b : Bool) (i : Nat) : (topBit b).getLsbD i = (decide (i = 31) && b) := by
  cases b with
  | false => simp [topBit]
  | true =>
    unfold topBit
    simp only [if_true, Bool.and_true]
    by_cases h : i = 31
    · subst h; decide
    · rw [BitVec.getLsbD_ofNat, show (0x80000000 : Nat) = 2 ^ 31 from rfl, Nat.testBit_two_pow]
      simp [h]; omega
theorem wordOf_get (bs : List Bool) : ∀ i, i < 32 → (wordOf bs).getLsbD i = bs.getD (31 - i) false := by
  induction bs with
  | nil => intro i hi; simp [wordOf]
  | cons b bs ih =>
    intro i hi
    rw [wordOf, BitVec.getLsbD_xor, topBit_get, BitVec.getLsbD_ushiftRight]
    by_cases h : i = 31
    · subst h
      simp
    · rw [show 1 + i = i + 1 by omega, ih (i + 1) (by omega)]
      obtain ⟨k, hk⟩ : ∃ k, 31 - i = k + 1 := ⟨30 - i, by omega⟩
      rw [hk, show 31 - (i + 1) = k by omega]
      simp [h]
theorem rawBits_word (bs : List Bool) : ∀ v : BitVec 32, bs.length ≤ 32 → rawBits v bs = crcSteps bs.length (v ^^^ wordOf bs) := by
  induction bs with
  | nil => intro v _; simp [rawBits, wordOf, crcSteps]
  | cons b bs ih =>
    intro v hl
    rw [List.length_cons] at hl ⊢
    have h1 := ih (crcStep (v ^^^ topBit b)) (by omega)
    simp only [rawBits, List.foldl_cons] at h1 ⊢
    have hlow : (wordOf bs).getLsbD 0 = false := by
      rw [wordOf_get bs 0 (by omega)]
      simp [List.getD_eq_getElem?_getD, List.getElem?_eq_none (show bs.length ≤ 31 by omega)]
    have e : crcStep (wordOf bs >>> 1) = wordOf bs := by
      unfold crcStep
      have hm : (wordOf bs >>> 1).msb = false := by
        rw [BitVec.msb_eq_getLsbD_last, BitVec.getLsbD_ushiftRight]
        simp
      rw [hm]
      simp only [Bool.false_eq_true, if_false, BitVec.xor_zero]
      apply BitVec.eq_of_getLsbD_eq
      intro i hi
      rw [BitVec.getLsbD_shiftLeft, BitVec.getLsbD_ushiftRight]
      by_cases h0 : i = 0
      · subst h0; rw [hlow]; simp
      · simp [hi, show ¬ i < 1 by omega, show 1 + (i - 1) = i by omega]
    rw [h1, crcSteps_comm, wordOf, ← BitVec.xor_assoc, crcStep_xor (v ^^^ topBit b) (wordOf bs >>> 1), e]

/-- Bit k of bytes, the highest bit of the first byte first. -/
def bitAt (l : List Nat) (k : Nat) : Bool := (l.getD (k / 8) 0).testBit (7 - k % 8)
/-- All bits of bytes. -/
def bitsOf (l : List Nat) : List Bool := (List.range (8 * l.length)).map (bitAt l)

theorem bitsOf_snoc (l : List Nat) (x : Nat) : bitsOf (l ++ [x]) = bitsOf l ++ (List.range 8).map fun i => x.testBit (7 - i) := by
  unfold bitsOf
  rw [List.length_append, List.length_singleton, Nat.mul_add, Nat.mul_one, List.range_add, List.map_append, List.map_map]
  congr 1
  · apply List.map_congr_left
    intro k hk
    have : k < 8 * l.length := by simpa using hk
    unfold bitAt
    rw [List.getD_eq_getElem?_getD, List.getD_eq_getElem?_getD, List.getElem?_append_left (by omega)]
  · apply List.map_congr_left
    intro k hk
    have : k < 8 := by simpa using hk
    show bitAt _ (8 * l.length + k) = _
    unfold bitAt
    rw [show (8 * l.length + k) / 8 = l.length by omega, show (8 * l.length + k) % 8 = k by omega]
    simp
theorem crcBits_raw (v : BitVec 32) (x : Nat) (hx : x < 256) : crcBits v x = rawBits v ((List.range 8).map fun i => x.testBit (7 - i)) := by
  rw [rawBits_word _ _ (by simp)]
  unfold crcBits
  rw [List.length_map, List.length_range]
  congr 2
  apply BitVec.eq_of_getLsbD_eq
  intro i hi
  rw [wordOf_get _ i hi, BitVec.getLsbD_ofNat, show (16777216 : Nat) = 2 ^ 24 from rfl, ← Nat.shiftLeft_eq, Nat.testBit_shiftLeft]
  rw [List.getD_eq_getElem?_getD, List.getElem?_map]
  by_cases h : 24 ≤ i
  · rw [List.getElem?_eq_getElem (by simp; omega)]
    simp [hi, h, show 7 - (31 - i) = i - 24 by omega]
  · rw [List.getElem?_eq_none (by simp; omega)]
    simp [h]
theorem crcOf_raw (l : List Nat) (h : ∀ b ∈ l, b < 256) : crcOf l = rawBits (BitVec.allOnes 32) (bitsOf l) := by
  obtain ⟨r, rfl⟩ : ∃ r, l = r.reverse := ⟨l.reverse, by simp⟩
  induction r with
  | nil => rfl
  | cons x r ih =>
    rw [List.reverse_cons] at h ⊢
    rw [crcOf_snoc, bitsOf_snoc, rawBits_append, ← ih fun b hb => h b (by simp at hb ⊢; exact .inl hb), crcByte_eq, crcBits_raw _ _ (h x (by simp))]

/-- What is left of sealed bytes: always the same. -/
theorem crcOf_seal (m : List Nat) (hm : ∀ b ∈ m, b < 256) : crcOf (m ++ [crc m / 16777216, crc m / 65536 % 256, crc m / 256 % 256, crc m % 256]) = crcSteps 32 (BitVec.allOnes 32) := by
  have hc := crc_lt m
  have hl : ∀ b ∈ [crc m / 16777216, crc m / 65536 % 256, crc m / 256 % 256, crc m % 256], b < 256 := by
    intro b hb
    simp only [List.mem_cons, List.not_mem_nil, or_false] at hb
    omega
  have e1 : crcOf (m ++ [crc m / 16777216, crc m / 65536 % 256, crc m / 256 % 256, crc m % 256]) = rawBits (crcOf m) (bitsOf [crc m / 16777216, crc m / 65536 % 256, crc m / 256 % 256, crc m % 256]) := by
    have e : m ++ [crc m / 16777216, crc m / 65536 % 256, crc m / 256 % 256, crc m % 256] = (((m ++ [crc m / 16777216]) ++ [crc m / 65536 % 256]) ++ [crc m / 256 % 256]) ++ [crc m % 256] := by simp
    have e2 : ([crc m / 16777216, crc m / 65536 % 256, crc m / 256 % 256, crc m % 256] : List Nat) = ((([] ++ [crc m / 16777216]) ++ [crc m / 65536 % 256]) ++ [crc m / 256 % 256]) ++ [crc m % 256] := by simp
    rw [e, crcOf_snoc, crcOf_snoc, crcOf_snoc, crcOf_snoc, crcByte_eq, crcByte_eq, crcByte_eq, crcByte_eq, crcBits_raw _ _ (by omega), crcBits_raw _ _ (by omega), crcBits_raw _ _ (by omega), crcBits_raw _ _ (by omega)]
    rw [e2, bitsOf_snoc, bitsOf_snoc, bitsOf_snoc, bitsOf_snoc, rawBits_append, rawBits_append, rawBits_append, rawBits_append]
    rfl
  rw [e1, rawBits_word _ _ (by simp [bitsOf])]
  have hlen : (bitsOf [crc m / 16777216, crc m / 65536 % 256, crc m / 256 % 256, crc m % 256]).length = 32 := by simp [bitsOf]
  rw [hlen]
  congr 1
  have hw : wordOf (bitsOf [crc m / 16777216, crc m / 65536 % 256, crc m / 256 % 256, crc m % 256]) = ~~~ (crcOf m) := by
    apply BitVec.eq_of_getLsbD_eq
    intro i hi
    rw [wordOf_get _ i hi, List.getD_eq_getElem?_getD, bitsOf, List.getElem?_map, List.getElem?_eq_getElem (by simp; omega)]
    simp only [List.getElem_range, Option.map_some, Option.getD_some]
    show bitAt _ (31 - i) = (~~~ (crcOf m)).toNat.testBit i
    have hcc : (~~~ (crcOf m)).toNat = crc m := rfl
    rw [hcc]
    generalize crc m = c at *
    unfold bitAt
    have h8 : ∀ a b : Nat, b < 8 → (a % 256).testBit b = a.testBit b := by
      intro a b hb
      rw [show (256 : Nat) = 2 ^ 8 from rfl, Nat.testBit_mod_two_pow]
      simp [hb]
    have hd : ∀ a k b : Nat, (a / 2 ^ k).testBit b = a.testBit (k + b) := by
      intro a k b
      rw [← Nat.shiftRight_eq_div_pow, Nat.testBit_shiftRight]
    have hi4 : (31 - i) / 8 = 0 ∨ (31 - i) / 8 = 1 ∨ (31 - i) / 8 = 2 ∨ (31 - i) / 8 = 3 := by omega
    rcases hi4 with h | h | h | h
    · rw [h]
      show (c / 2 ^ 24).testBit _ = _
      rw [hd]; congr 1; omega
    · rw [h]
      show ((c / 2 ^ 16) % 256).testBit _ = _
      rw [h8 _ _ (by omega), hd]; congr 1; omega
    · rw [h]
      show ((c / 2 ^ 8) % 256).testBit _ = _
      rw [h8 _ _ (by omega), hd]; congr 1; omega
    · rw [h]
      show (c % 256).testBit _ = _
      rw [h8 _ _ (by omega)]; congr 1; omega
  rw [hw]
  apply BitVec.eq_of_getLsbD_eq
  intro i hi
  rw [BitVec.getLsbD_xor, BitVec.getLsbD_not, BitVec.getLsbD_allOnes]
  simp [hi]

/-- A bit is turned. -/
def flip (l : List Nat) (k : Nat) : List Nat := l.set (k / 8) (l.getD (k / 8) 0 ^^^ (128 >>> (k % 8)))
theorem flip_length (l : List Nat) (k : Nat) : (flip l k).length = l.length := by simp [flip]
theorem bitAt_flip (l : List Nat) (k j : Nat) (hk : k / 8 < l.length) : bitAt (flip l k) j = (bitAt l j ^^ decide (j = k)) := by
  unfold bitAt flip
  rw [List.getD_eq_getElem?_getD, List.getElem?_set]
  by_cases h : k / 8 = j / 8
  · rw [if_pos h, if_pos hk]
    simp only [Option.getD_some]
    rw [Nat.testBit_xor, h]
    congr 1
    rw [show (128 : Nat) = 2 ^ 7 from rfl, Nat.testBit_shiftRight, Nat.testBit_two_pow]
    rw [decide_eq_decide]
    omega
  · rw [if_neg h]
    have : ¬ j = k := by rintro rfl; exact h rfl
    rw [← List.getD_eq_getElem?_getD]
    simp [this]

/-- Sealed bytes with turned bits are not sealed. -/
theorem burst (l m : List Nat) (hl : ∀ b ∈ l, b < 256) (hm : ∀ b ∈ m, b < 256) (hlen : m.length = l.length) (F : Nat) (hF : F + 32 ≤ 8 * l.length) (T : Nat → Bool)
    (hb : ∀ j, j < 8 * l.length → bitAt m j = (bitAt l j ^^ (decide (F ≤ j ∧ j < F + 32) && T (j - F)))) (i : Nat) (hi : i < 32) (hT : T i = true) : crcOf m ≠ crcOf l := by
  intro e
  rw [crcOf_raw m hm, crcOf_raw l hl, bitsOf, bitsOf, hlen] at e
  have e1 : (List.range (8 * l.length)).map (bitAt m) = (List.range (8 * l.length)).map fun j => (bitAt l j ^^ (decide (F ≤ j ∧ j < F + 32) && T (j - F))) :=
    List.map_congr_left fun j hj => hb j (by simpa using hj)
  have e2 := rawBits_xor (List.range (8 * l.length)) (bitAt l) (fun j => decide (F ≤ j ∧ j < F + 32) && T (j - F)) (BitVec.allOnes 32) 0#32
  rw [BitVec.xor_zero] at e2
  rw [e1, e2] at e
  have e3 : rawBits 0#32 ((List.range (8 * l.length)).map fun j => decide (F ≤ j ∧ j < F + 32) && T (j - F)) = 0#32 := by
    have := congrArg (fun x => rawBits (BitVec.allOnes 32) ((List.range (8 * l.length)).map (bitAt l)) ^^^ x) e
    simp only [← BitVec.xor_assoc, BitVec.xor_self, BitVec.zero_xor] at this
    exact this
  have hsplit : List.range (8 * l.length) = List.range F ++ ((List.range 32).map (F + ·) ++ (List.range (8 * l.length - (F + 32))).map ((F + 32) + ·)) := by
    conv => lhs; rw [show 8 * l.length = (F + 32) + (8 * l.length - (F + 32)) by omega, List.range_add, List.range_add]
    rw [List.append_assoc]
  have z1 := rawBits_zeros (List.range F) (fun j => decide (F ≤ j ∧ j < F + 32) && T (j - F)) (fun j hj => by
    have : j < F := by simpa using hj
    simp; omega) 0#32
  rw [crcSteps_zero] at z1
  have z2 := rawBits_zeros ((List.range (8 * l.length - (F + 32))).map ((F + 32) + ·)) (fun j => decide (F ≤ j ∧ j < F + 32) && T (j - F)) (fun j hj => by
    simp only [List.mem_map, List.mem_range] at hj
    obtain ⟨a, _, rfl⟩ := hj
    simp; omega)
  rw [hsplit, List.map_append, List.map_append, rawBits_append, rawBits_append, z1, z2] at e3
  have e4 := crcSteps_inj0 _ _ e3
  rw [rawBits_word _ _ (by simp)] at e4
  have e5 := crcSteps_inj0 _ _ e4
  rw [BitVec.zero_xor] at e5
  have e6 := congrArg (fun x => x.getLsbD (31 - i)) e5
  simp only [BitVec.getLsbD_zero] at e6
  rw [wordOf_get _ _ (by omega), List.getD_eq_getElem?_getD, List.map_map, List.getElem?_map, List.getElem?_eq_getElem (by simp; omega)] at e6
  simp only [List.getElem_range, Option.map_some, Option.getD_some, Function.comp] at e6
  rw [show 31 - (31 - i) = i by omega, show F + i - F = i by omega, hT] at e6
  simp at e6
  omega

end Go.Proofs.Ytbddgmikbpggeaa
