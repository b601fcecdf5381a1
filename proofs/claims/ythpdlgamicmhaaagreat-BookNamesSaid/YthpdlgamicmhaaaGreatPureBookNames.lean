/- The pure statement of BookNames: of all texts it is told whether they may be names, as the document tells it. No condition. -/
import Derived.Test.YthpdlgamicmhaaaGreatPNx16
namespace Go.Proofs.YthpdlgamicmhaaaGreat.Pure
open Go.RowKit Go.Proofs.YthpdlgamicmhaaaGreat.PN Go.Proofs.YthpdlgamicmhaaaGreatW.PrintWords Go.Proofs.YthpdlgamicmhaaaGreatW.PrintLast

theorem wrap_up {i : Int} {n : Nat} (h0 : 0 ≤ i) (h : i < (n : Int)) (hn : n ≤ 30) : wrap64 (i + 1) = i + 1 := by
  unfold wrap64
  omega

abbrev Lt (c : Int) : Prop := 97 ≤ c ∧ c ≤ 122
abbrev Dg (c : Int) : Prop := (48 ≤ c ∧ c ≤ 57) ∨ c = 95

theorem one_book (k : Nat) (x : ByteArray) (i : Int) (h1 : 1 ≤ i) (h2 : i < (x.size : Int)) (hn : x.size ≤ 30) :
    book_Name.l0 (k + 1) x (x.size : Int) i = if Lt (bt x i) ∨ Dg (bt x i) then book_Name.l0 k x (x.size : Int) (i + 1) else some false := by
  rw [← wrap_up (by omega) h2 hn]
  unfold Lt Dg
  simp only [book_Name.l0]
  rw [if_pos h2, if_pos (show 0 ≤ i by omega), if_pos h2]
  generalize bt x i = c
  generalize wrap64 (i + 1) = j
  have hi : ¬ i = 0 := by omega
  simp only [if_neg hi]
  generalize book_Name.l0 k x (x.size : Int) j = R
  (repeat' split) <;> first | rfl | (exfalso; omega) | exact absurd trivial ‹¬True›

theorem one_ref (k : Nat) (x : ByteArray) (i : Int) (h1 : 0 ≤ i) (h2 : i < (x.size : Int)) (hn : x.size ≤ 30) :
    monocoqueref06_Name.l0 (k + 1) x i = if Lt (bt x i) ∨ Dg (bt x i) then monocoqueref06_Name.l0 k x (i + 1) else some false := by
  rw [← wrap_up (by omega) h2 hn]
  unfold Lt Dg
  simp only [monocoqueref06_Name.l0]
  rw [if_pos h2, if_pos h1]
  generalize bt x i = c
  generalize wrap64 (i + 1) = j
  generalize monocoqueref06_Name.l0 k x j = R
  (repeat' split) <;> first | rfl | (exfalso; omega) | exact absurd trivial ‹¬True›

theorem rest_same (x : ByteArray) (hn : x.size ≤ 30) (d : Nat) : ∀ (k : Nat) (i : Int), 1 ≤ i → i ≤ x.size → (x.size : Int) - i = d → d < k →
    ∃ b, book_Name.l0 k x (x.size : Int) i = some b ∧ monocoqueref06_Name.l0 k x i = some b := by
  induction d with
  | zero =>
    intro k i h0 h1 hd hk
    obtain ⟨k, rfl⟩ : ∃ m, k = m + 1 := ⟨k - 1, by omega⟩
    exact ⟨true, by simp only [book_Name.l0]; rw [if_neg (by omega)], by simp only [monocoqueref06_Name.l0]; rw [if_neg (by omega)]⟩
  | succ d ih =>
    intro k i h0 h1 hd hk
    obtain ⟨k, rfl⟩ : ∃ m, k = m + 1 := ⟨k - 1, by omega⟩
    rw [one_book k x i h0 (by omega) hn, one_ref k x i (by omega) (by omega) hn]
    by_cases h : Lt (bt x i) ∨ Dg (bt x i)
    · rw [if_pos h, if_pos h]
      exact ih k (i + 1) (by omega) (by omega) (by omega) (by omega)
    · rw [if_neg h, if_neg h]
      exact ⟨false, rfl, rfl⟩

theorem name_same (x : ByteArray) (k : Nat) (hk : 40 ≤ k) : ∃ b, book_Name.f k x = some b ∧ monocoqueref06_Name.f k x = some b := by
  obtain ⟨k, rfl⟩ : ∃ m, k = m + 2 := ⟨k - 2, by omega⟩
  unfold book_Name.f monocoqueref06_Name.f
  by_cases h0 : (x.size : Int) = 0
  · rw [if_pos h0, if_pos (by omega)]
    exact ⟨false, by simp [book_Name.j0], by simp [monocoqueref06_Name.j0]⟩
  · rw [if_neg h0, if_neg (by omega)]
    by_cases h30 : (x.size : Int) > 30
    · rw [if_pos h30, decide_eq_true h30]
      exact ⟨false, by simp [book_Name.j0], by simp [monocoqueref06_Name.j0]⟩
    · rw [if_neg h30, decide_eq_false h30, if_pos (by omega)]
      by_cases hl : Lt (bt x 0)
      · rw [if_neg (by unfold Lt at hl; omega), decide_eq_false (by unfold Lt at hl; omega)]
        have e1 : book_Name.j0 (k + 2) x false = book_Name.l0 (k + 1) x (x.size : Int) 0 := by rw [book_Name.j0]; simp
        have e2 : monocoqueref06_Name.j0 (k + 2) x false = monocoqueref06_Name.l0 (k + 1) x 0 := by rw [monocoqueref06_Name.j0]; simp
        rw [e1, e2, one_ref k x 0 (by omega) (by omega) (by omega), if_pos (.inl hl)]
        have e3 : book_Name.l0 (k + 1) x (x.size : Int) 0 = book_Name.l0 k x (x.size : Int) (0 + 1) := by
          rw [← wrap_up (n := x.size) (Int.le_refl 0) (by omega) (by omega)]
          unfold Lt at hl
          simp only [book_Name.l0]
          rw [if_pos (by omega), if_pos (by omega), if_pos (by omega)]
          generalize bt x 0 = c at hl ⊢
          (repeat' split) <;> first | rfl | (exfalso; omega) | exact absurd trivial ‹¬True›
        rw [e3]
        exact rest_same x (by omega) (x.size - 1) k 1 (by omega) (by omega) (by omega) (by omega)
      · refine ⟨false, ?_, ?_⟩
        · have e1 : book_Name.j0 (k + 2) x false = book_Name.l0 (k + 1) x (x.size : Int) 0 := by rw [book_Name.j0]; simp
          rw [e1]
          unfold Lt at hl
          simp only [book_Name.l0]
          rw [if_pos (by omega), if_pos (by omega), if_pos (by omega)]
          generalize bt x 0 = c at hl ⊢
          (repeat' split) <;> first | rfl | (exfalso; omega) | exact absurd trivial ‹¬True›
        · unfold Lt at hl
          by_cases h97 : bt x 0 < 97
          · rw [if_pos h97]; simp [monocoqueref06_Name.j0]
          · rw [if_neg h97, decide_eq_true (by omega)]; simp [monocoqueref06_Name.j0]

theorem BookNames : monocoquelaw06_BookNames.Pure := by
  intro x _
  refine ⟨60, ?_⟩
  obtain ⟨b, h1, h2⟩ := name_same x 60 (by omega)
  unfold monocoquelaw06_BookNames.f
  rw [show monocoquelaw06_told.f = some true from rfl, h1, h2]
  simp

end Go.Proofs.YthpdlgamicmhaaaGreat.Pure
