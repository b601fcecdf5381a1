/- Rows of numbers and of texts. -/
import Derived.Test.YtbddgmikbpggeaaShape
namespace Go.Proofs.Ytbddgmikbpggeaa
open Go.RowKit
set_option linter.unusedVariables false
set_option linter.unusedSimpArgs false

theorem rowsR_nat {k : IntKind} {m : Nat} {w : World} {B : Nat} {xs : List Value} {l : List Nat} (h : rowsR (natR k m) w B xs l) : xs = (l.map fun (b : Nat) => Value.int k (b : Int)) ∧ ∀ n ∈ l, n < m := by
  induction h with
  | nil => exact ⟨rfl, by simp⟩
  | cons h1 _ ih =>
    obtain ⟨rfl, h2⟩ := h1
    obtain ⟨rfl, h3⟩ := ih
    refine ⟨rfl, fun n hn => ?_⟩
    rcases List.mem_cons.1 hn with rfl | h
    · exact h2
    · exact h3 n h
theorem rowsR_int {k : IntKind} {w : World} {B : Nat} {xs : List Value} {l : List Int} (h : rowsR (intR k) w B xs l) : xs = (l.map fun (b : Int) => Value.int k b) ∧ ∀ n ∈ l, (Lit.int k n).wf = true := by
  induction h with
  | nil => exact ⟨rfl, by simp⟩
  | cons h1 _ ih =>
    obtain ⟨rfl, h2⟩ := h1
    obtain ⟨rfl, h3⟩ := ih
    refine ⟨rfl, fun n hn => ?_⟩
    rcases List.mem_cons.1 hn with rfl | h
    · exact h2
    · exact h3 n h
theorem rowsR_str {w : World} {B : Nat} {xs : List Value} {l : List ByteArray} (h : rowsR strR w B xs l) : xs = (l.map fun (b : ByteArray) => Value.string b) ∧ ∀ s ∈ l, s.size ≤ maxLen := by
  induction h with
  | nil => exact ⟨rfl, by simp⟩
  | cons h1 _ ih =>
    obtain ⟨rfl, h2⟩ := h1
    obtain ⟨rfl, h3⟩ := ih
    refine ⟨rfl, fun n hn => ?_⟩
    rcases List.mem_cons.1 hn with rfl | h
    · exact h2
    · exact h3 n h
theorem Rd.take_ {w : World} {B sz n : Nat} {A : Option Addr} {xs : List Value} (h : Rd w B sz A n xs) (k : Nat) (hk : k ≤ n) : Rd w B sz A k (xs.take (k * sz)) := by
  have hl := h.1
  refine ⟨by rw [List.length_take, hl, Nat.min_eq_left (Nat.mul_le_mul_right _ hk)], fun hn => ?_⟩
  obtain ⟨ad, h1, h2, h3⟩ := h.2 (by omega)
  refine ⟨ad, h1, h2, fun j u hu => h3 j u ?_⟩
  rw [List.getElem?_take] at hu
  split at hu
  · exact hu
  · cases hu
/-- A row of numbers that came in. -/
def Nums (w : World) (B : Nat) (k : IntKind) (A : Option Addr) (l : List Nat) : Prop := Rd w B 1 A l.length (l.map fun (b : Nat) => Value.int k (b : Int))
/-- A row of texts that came in. -/
def Strs (w : World) (B : Nat) (A : Option Addr) (l : List ByteArray) : Prop := Rd w B 1 A l.length (l.map fun (b : ByteArray) => Value.string b)
theorem Nums.below {w w' : World} {B : Nat} {k : IntKind} {A : Option Addr} {l : List Nat} (h : Nums w B k A l) (hb : Below B w w') : Nums w' B k A l := Rd.below h hb
theorem Strs.below {w w' : World} {B : Nat} {A : Option Addr} {l : List ByteArray} (h : Strs w B A l) (hb : Below B w w') : Strs w' B A l := Rd.below h hb
theorem Nums.at_ {w : World} {B : Nat} {k : IntKind} {A : Option Addr} {l : List Nat} {i : Nat} (h : Nums w B k A l) (hi : i < l.length) : ∃ ad, A = some ad ∧ ad.block < B ∧ w.cell? (ad.add i) = some (.int k (l[i] : Int)) := by
  obtain ⟨ad, u, h1, h2, h3, h4⟩ := Rd.at_ h hi
  rw [List.getElem?_map, List.getElem?_eq_getElem hi] at h3
  simp only [Option.map_some, Option.some.injEq] at h3
  subst h3
  exact ⟨ad, h1, h2, h4⟩
theorem Strs.at_ {w : World} {B : Nat} {A : Option Addr} {l : List ByteArray} {i : Nat} (h : Strs w B A l) (hi : i < l.length) : ∃ ad, A = some ad ∧ ad.block < B ∧ w.cell? (ad.add i) = some (.string l[i]) := by
  obtain ⟨ad, u, h1, h2, h3, h4⟩ := Rd.at_ h hi
  rw [List.getElem?_map, List.getElem?_eq_getElem hi] at h3
  simp only [Option.map_some, Option.some.injEq] at h3
  subst h3
  exact ⟨ad, h1, h2, h4⟩
theorem Nums.take {w : World} {B : Nat} {k : IntKind} {A : Option Addr} {l : List Nat} (h : Nums w B k A l) (q : Nat) : Nums w B k A (l.take q) := by
  have h1 := Rd.take_ h (l.take q).length (by simp; omega)
  unfold Nums
  rw [Nat.mul_one] at h1
  have : (l.map fun (b : Nat) => Value.int k (b : Int)).take (l.take q).length = (l.take q).map fun (b : Nat) => Value.int k (b : Int) := by
    rw [List.map_take, List.length_take, List.take_eq_take_iff]; simp
  rwa [this] at h1
theorem Strs.take {w : World} {B : Nat} {A : Option Addr} {l : List ByteArray} (h : Strs w B A l) (q : Nat) : Strs w B A (l.take q) := by
  have h1 := Rd.take_ h (l.take q).length (by simp; omega)
  unfold Strs
  rw [Nat.mul_one] at h1
  have : (l.map fun (b : ByteArray) => Value.string b).take (l.take q).length = (l.take q).map fun (b : ByteArray) => Value.string b := by
    rw [List.map_take, List.length_take, List.take_eq_take_iff]; simp
  rwa [this] at h1
theorem nums_of {k : IntKind} {m : Nat} {w : World} {B : Nat} {v : Value} {l : List Nat} (h : sliceR 1 (natR k m) w B [v] l) : ∃ A c, v = .slice A l.length c ∧ l.length ≤ c ∧ c ≤ maxLen ∧ Nums w B k A l ∧ ∀ n ∈ l, n < m := by
  obtain ⟨A, c, xs, h1, h2, h3, h4, h5⟩ := h
  obtain ⟨rfl, h6⟩ := rowsR_nat h5
  exact ⟨A, c, by simpa using h1, h2, h3, h4, h6⟩
theorem strs_of {w : World} {B : Nat} {v : Value} {l : List ByteArray} (h : sliceR 1 strR w B [v] l) : ∃ A c, v = .slice A l.length c ∧ l.length ≤ c ∧ c ≤ maxLen ∧ Strs w B A l ∧ ∀ s ∈ l, s.size ≤ maxLen := by
  obtain ⟨A, c, xs, h1, h2, h3, h4, h5⟩ := h
  obtain ⟨rfl, h6⟩ := rowsR_str h5
  exact ⟨A, c, by simpa using h1, h2, h3, h4, h6⟩
theorem u8_of {w : World} {B : Nat} {v : Value} {l : List Nat} (h : sliceR 1 (natR .u8 256) w B [v] l) : ∃ A c, v = .slice A l.length c ∧ l.length ≤ c ∧ c ≤ maxLen ∧ Bytes w B A l := by
  obtain ⟨A, c, h1, h2, h3, h4, h5⟩ := nums_of h
  exact ⟨A, c, h1, h2, h3, h4, h5⟩
end Go.Proofs.Ytbddgmikbpggeaa
