/- What is put is read as it was: plain laws. -/
import Derived.Test.YtbddgmikbpggeaaReader4
namespace Go.Proofs.Ytbddgmikbpggeaa
open Go.RowKit
set_option linter.unusedVariables false
set_option linter.unusedSimpArgs false

theorem highB_ge (f : Nat) : ∀ m, ∀ b ∈ highB f m, 128 ≤ b := by
  induction f with
  | zero => intro m b hb; simp [highB] at hb
  | succ f ih =>
    intro m b hb
    unfold highB at hb
    split at hb
    · simp at hb
    · rcases List.mem_append.1 hb with h | h
      · exact ih _ _ h
      · simp at h; omega
theorem highB_len (f : Nat) : ∀ m, (highB f m).length ≤ f := by
  induction f with
  | zero => intro m; simp [highB]
  | succ f ih =>
    intro m
    unfold highB
    split
    · simp
    · have := ih (m / 128); simp; omega
theorem highB_zero (f : Nat) : highB f 0 = [] := by cases f <;> simp [highB]
theorem highB_head (f : Nat) : ∀ m, m < 128 ^ f → (highB f m).head? ≠ some 128 := by
  induction f with
  | zero => intro m _; simp [highB]
  | succ f ih =>
    intro m hm
    unfold highB
    by_cases h0 : m = 0
    · simp [h0]
    · rw [if_neg h0]
      by_cases h1 : m / 128 = 0
      · rw [h1, highB_zero]; simp; omega
      · have h2 : m / 128 < 128 ^ f := by rw [Nat.pow_succ] at hm; exact Nat.div_lt_of_lt_mul (by rw [Nat.mul_comm]; exact hm)
        have h3 := ih (m / 128) h2
        cases hq : highB f (m / 128) with
        | nil =>
          exfalso
          cases f with
          | zero => simp at h2; omega
          | succ f => unfold highB at hq; rw [if_neg h1] at hq; simp at hq
        | cons b t => rw [hq] at h3; simpa using h3
theorem cntB_app (h : List Nat) : ∀ f (x : Nat) (t : List Nat), (∀ b ∈ h, 128 ≤ b) → x < 128 → h.length < f → cntB f (h ++ x :: t) = h.length := by
  induction h with
  | nil =>
    intro f x t _ hx hf
    cases f with
    | zero => simp at hf
    | succ f => simp [cntB]; omega
  | cons b h ih =>
    intro f x t hh hx hf
    cases f with
    | zero => simp at hf
    | succ f =>
      have h1 := hh b (by simp)
      have h2 := ih f x t (fun y hy => hh y (by simp [hy])) hx (by simp at hf; omega)
      simp only [List.cons_append, cntB, if_pos h1, h2, List.length_cons]
theorem accB_app (a : List Nat) : ∀ (v : Nat) (b : List Nat), accB v (a ++ b) = (accB v a).bind fun u => accB u b := by
  induction a with
  | nil => intro v b; simp [accB]
  | cons x a ih =>
    intro v b
    simp only [List.cons_append, accB]
    split
    · rfl
    · exact ih _ _
theorem accB_high (f : Nat) : ∀ m, m < 128 ^ f → m ≤ 18446744073709551615 → accB 0 (highB f m) = some m := by
  induction f with
  | zero => intro m hm _; simp at hm; subst hm; rfl
  | succ f ih =>
    intro m hm hl
    unfold highB
    by_cases h0 : m = 0
    · simp [h0, accB]
    · rw [if_neg h0, accB_app, ih (m / 128) (by rw [Nat.pow_succ] at hm; exact Nat.div_lt_of_lt_mul (by rw [Nat.mul_comm]; exact hm)) (by omega)]
      simp only [Option.bind_some, accB]
      rw [if_neg (by omega)]
      congr 1
      omega
theorem accB_varB (n : Nat) (hn : n < 18446744073709551616) : accB 0 (varB n) = some n := by
  unfold varB
  rw [accB_app, accB_high 9 (n / 128) (by omega) (by omega)]
  simp only [Option.bind_some, accB]
  rw [if_neg (by omega)]
  congr 1
  omega
/-- A number that was put is read. -/
theorem decB_varB (n : Nat) (hn : n < 18446744073709551616) (t : List Nat) (most : Nat) (hm : n ≤ most) : decB (varB n ++ t) most = (n, (varB n).length, 0) := by
  have hL := highB_len 9 (n / 128)
  have hc : cntB 10 (varB n ++ t) = (highB 9 (n / 128)).length := by
    unfold varB
    rw [List.append_assoc]
    exact cntB_app _ 10 _ _ (highB_ge _ _) (by omega) (by omega)
  have hv : (varB n).length = (highB 9 (n / 128)).length + 1 := by simp [varB]
  unfold decB
  rw [hc, if_neg (by rw [List.length_append, hv]; omega), if_neg, List.take_append_of_le_length (by omega), List.take_of_length_le (by omega), accB_varB n hn]
  · simp only
    rw [if_neg (by omega), hv]
  · rintro (h | ⟨h1, h2⟩)
    · omega
    · have h3 := highB_head 9 (n / 128) (by omega)
      unfold varB at h2
      cases hq : highB 9 (n / 128) with
      | nil => rw [hq] at h1; simp at h1
      | cons b u => rw [hq] at h2 h3; simp at h2 h3; exact h3 h2
/-- A text that was put is read. -/
theorem textD_textB (s : ByteArray) (t : List Nat) (most : Int) (hm : (s.size : Int) ≤ most) (hs : s.size ≤ 1000000) : textD (textB s ++ t) most = ((textB s).length, 0, sB s) := by
  have hd : decB (textB s ++ t) 18446744073709551615 = (s.size, (varB s.size).length, 0) := by
    unfold textB
    rw [List.append_assoc]
    exact decB_varB s.size (by omega) _ _ (by omega)
  have hlen : (sB s).length = s.size := sB_length s
  have hd1 : (textB s ++ t).drop (varB s.size).length = sB s ++ t := by
    unfold textB
    rw [List.append_assoc, List.drop_left]
  unfold textD
  rw [hd]
  dsimp only
  rw [if_neg (by simp), if_neg (by omega), if_neg, hd1, List.take_append_of_le_length (by omega), List.take_of_length_le (by omega)]
  · simp [textB, hlen]
  · simp [textB, hlen]
/-- A word that was put is read. -/
theorem wordV_wordB (n : Nat) (hn : n < 4294967296) (t : List Nat) : wordV (wordB n ++ t) = n ∧ wordK (wordB n ++ t) = 4 ∧ wordE (wordB n ++ t) = 0 := by
  have hl : (wordB n).length = 4 := by simp [wordB]
  have h : ¬ (wordB n ++ t).length < 4 := by rw [List.length_append, hl]; omega
  refine ⟨?_, ?_, ?_⟩
  · unfold wordV
    rw [if_neg h, List.take_append_of_le_length (by omega), List.take_of_length_le (by omega), ofB_wordB n hn]
  · unfold wordK; rw [if_neg h]
  · unfold wordE; rw [if_neg h]

theorem nxA0 (a K : Nat) : nxA a 0 K 0 = a + K := by unfold nxA; rw [if_pos ⟨rfl, rfl⟩]
theorem nxE0 : nxE 0 0 = 0 := rfl
theorem var_there (g : Nat) (A : Option Addr) (l : List Nat) (c at_ n : Nat) (t : List Nat) (w : World) (h : Rdr w g A l c at_ 0) (hn : n < 18446744073709551616) (hd : l.drop at_ = varB n ++ t) :
    Calls Try.prog 29 #[.pointer (some ⟨g, 0, none⟩), .int .u64 (n : Int)] w fun e w' => e = .returned (.int .u64 (n : Int)) ∧ Rdr w' g A l c (at_ + (varB n).length) 0 ∧ w.grownBy w' (some g) := by
  have H := var_calls g A l c at_ 0 w n hn h
  rw [hd, decB_varB n hn t n (Nat.le_refl _), rdV0, nxA0, nxE0] at H
  exact H
theorem text_there (g : Nat) (A : Option Addr) (l : List Nat) (c at_ : Nat) (s : ByteArray) (most : Int) (t : List Nat) (w : World) (h : Rdr w g A l c at_ 0) (hs : (s.size : Int) ≤ most) (hs2 : s.size ≤ 1000000) (hm : most < 9223372036854775808) (hd : l.drop at_ = textB s ++ t) :
    Calls Try.prog 30 #[.pointer (some ⟨g, 0, none⟩), .int .i64 most] w fun e w' => e = .returned (.string s) ∧ Rdr w' g A l c (at_ + (textB s).length) 0 ∧ w.grownBy w' (some g) := by
  have H := text_calls g A l c at_ 0 w most hm h
  rw [hd, textD_textB s t most hs hs2, rdS0, nxA0, nxE0, bsB_sB] at H
  exact H
theorem word_there (g : Nat) (A : Option Addr) (l : List Nat) (c at_ n : Nat) (t : List Nat) (w : World) (h : Rdr w g A l c at_ 0) (hn : n < 4294967296) (hd : l.drop at_ = wordB n ++ t) :
    Calls Try.prog 31 #[.pointer (some ⟨g, 0, none⟩)] w fun e w' => e = .returned (.int .u32 (n : Int)) ∧ Rdr w' g A l c (at_ + 4) 0 ∧ w.grownBy w' (some g) := by
  have H := word_calls g A l c at_ 0 w h
  obtain ⟨h1, h2, h3⟩ := wordV_wordB n hn t
  rw [hd, h1, h2, h3, rdV0, nxA0, nxE0] at H
  exact H
end Go.Proofs.Ytbddgmikbpggeaa
