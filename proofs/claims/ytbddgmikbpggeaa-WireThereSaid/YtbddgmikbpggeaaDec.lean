/- The number with which bytes begin: plain laws. -/
import Derived.Test.YtbddgmikbpggeaaWords
namespace Go.Proofs.Ytbddgmikbpggeaa
open Go.RowKit
set_option linter.unusedVariables false
set_option linter.unusedSimpArgs false

/-- How many bytes are marked, from the first on, at most f. -/
def cntB : Nat → List Nat → Nat
  | 0, _ => 0
  | _ + 1, [] => 0
  | f + 1, b :: l => if 128 ≤ b then cntB f l + 1 else 0
/-- The digits' number, unless it is too great. -/
def accB : Nat → List Nat → Option Nat
  | v, [] => some v
  | v, b :: l => if 144115188075855871 < v then none else accB (v * 128 + b % 128) l
/-- The number with which bytes begin, how many it takes, the error. -/
def decB (l : List Nat) (most : Nat) : Nat × Nat × Nat :=
  if cntB 10 l < 10 ∧ l.length ≤ cntB 10 l then (0, 0, 4)
  else if cntB 10 l = 10 ∨ (0 < cntB 10 l ∧ l.head? = some 128) then (0, 0, 3)
  else match accB 0 (l.take (cntB 10 l + 1)) with
    | none => (0, 0, 3)
    | some v => if most < v then (0, 0, 2) else (v, cntB 10 l + 1, 0)

theorem cntB_le (f : Nat) : ∀ l, cntB f l ≤ f := by
  induction f with
  | zero => intro l; simp [cntB]
  | succ f ih =>
    intro l
    cases l with
    | nil => simp [cntB]
    | cons b l =>
      unfold cntB
      have := ih l
      split <;> omega
theorem cntB_len (f : Nat) : ∀ l, cntB f l ≤ l.length := by
  induction f with
  | zero => intro l; simp [cntB]
  | succ f ih =>
    intro l
    cases l with
    | nil => simp [cntB]
    | cons b l =>
      unfold cntB
      have := ih l
      split
      · simp; omega
      · omega
/-- One marked byte more. -/
theorem cntB_next (l : List Nat) (n : Nat) (h : cntB 10 l = n + cntB (10 - n) (l.drop n)) (hn : n < 10) (hl : n < l.length) (hb : 128 ≤ l[n]) : cntB 10 l = (n + 1) + cntB (10 - (n + 1)) (l.drop (n + 1)) := by
  rw [h, List.drop_eq_getElem_cons hl, show 10 - n = (10 - (n + 1)) + 1 by omega, cntB, if_pos hb]
  omega
theorem cntB_stop (l : List Nat) (n : Nat) (h : cntB 10 l = n + cntB (10 - n) (l.drop n)) (hn : n < 10) (hl : n < l.length) (hb : ¬ 128 ≤ l[n]) : cntB 10 l = n := by
  rw [h, List.drop_eq_getElem_cons hl, show 10 - n = (10 - (n + 1)) + 1 by omega, cntB, if_neg hb]
  omega
theorem cntB_end (l : List Nat) (n : Nat) (h : cntB 10 l = n + cntB (10 - n) (l.drop n)) (hl : l.length ≤ n) : cntB 10 l = n := by
  rw [h, List.drop_eq_nil_of_le hl]
  cases 10 - n <;> simp [cntB]
theorem cntB_ten (l : List Nat) (h : cntB 10 l = 10 + cntB (10 - 10) (l.drop 10)) : cntB 10 l = 10 := by
  rw [h]; simp [cntB]

theorem dec_short (l : List Nat) (most : Nat) (h1 : cntB 10 l < 10) (h2 : l.length ≤ cntB 10 l) : decB l most = (0, 0, 4) := by unfold decB; rw [if_pos ⟨h1, h2⟩]
theorem dec_ten (l : List Nat) (most : Nat) (h1 : cntB 10 l = 10) : decB l most = (0, 0, 3) := by
  unfold decB
  rw [if_neg (by omega), if_pos (.inl h1)]
theorem dec_zero (l : List Nat) (most : Nat) (h1 : cntB 10 l < l.length) (h2 : 0 < cntB 10 l) (h3 : l[0]'(by omega) = 128) : decB l most = (0, 0, 3) := by
  unfold decB
  rw [if_neg (by omega), if_pos (.inr ⟨h2, by cases l with | nil => simp at h1 | cons b l => simpa using h3⟩)]
theorem dec_acc (l : List Nat) (most : Nat) (h1 : cntB 10 l < l.length) (h2 : cntB 10 l < 10) (h3 : cntB 10 l = 0 ∨ l[0]'(by omega) ≠ 128) :
    decB l most = match accB 0 (l.take (cntB 10 l + 1)) with
      | none => (0, 0, 3)
      | some v => if most < v then (0, 0, 2) else (v, cntB 10 l + 1, 0) := by
  unfold decB
  rw [if_neg (by omega), if_neg]
  rintro (h | ⟨h, h'⟩)
  · omega
  · rcases h3 with h3 | h3
    · omega
    · apply h3
      cases l with
      | nil => simp at h1
      | cons b l => simpa using h'

theorem and127b (x : Nat) (h : x < 256) : bits .and .u8 (x : Int) 127 = (x : Int) % 128 := by
  rw [show (127 : Int) = ((127 : Nat) : Int) from rfl, u8_and_nat x 127 h (by omega), nat_mask7]; omega
theorem or7 (v x : Nat) (hv : v ≤ 144115188075855871) : bits .or .u64 ((v : Int) * 128) ((x : Int) % 128) = ((v * 128 + x % 128 : Nat) : Int) := by
  rw [show (v : Int) * 128 = ((v * 128 : Nat) : Int) by omega, show (x : Int) % 128 = ((x % 128 : Nat) : Int) by omega, u64_or_nat _ _ (by omega) (by omega), nat_join 7 (v * 128) (x % 128) (by omega) (by omega)]

end Go.Proofs.Ytbddgmikbpggeaa
