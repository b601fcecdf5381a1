/- What an argument's reading gives, in the words of Words. -/
import Derived.Test.YtbddgmikbpggeaaWords
import Derived.ProofKit
import Derived.OpenShut
namespace Go.Proofs.Ytbddgmikbpggeaa
open Go.RowKit
set_option linter.unusedVariables false
set_option linter.unusedSimpArgs false

/-- A slice of integers that came in. -/
theorem rd_of_row {k : IntKind} {w : World} {a : Option Addr} {len cap : Nat} {zs : List Int} (h : (a = none ∧ len = 0 ∧ cap = 0 ∧ zs = []) ∨
    ∃ x, a = some x ∧ len ≤ cap ∧ cap ≤ maxLen ∧ zs.length = cap ∧ (∀ i, i < zs.length → w.cell? (x.add i) = some (.int k (zs.getD i 0))) ∧ ∀ n ∈ zs, (Lit.int k n).wf = true) :
    ∃ l : List Int, l.length = len ∧ Rd w w.heap.size 1 a len (l.map (Value.int k)) ∧ len ≤ cap ∧ cap ≤ maxLen ∧ ∀ n ∈ l, (Lit.int k n).wf = true := by
  rcases h with ⟨rfl, rfl, rfl, rfl⟩ | ⟨x, rfl, hl, hm, hz, hc, hw⟩
  · exact ⟨[], rfl, by simpa using Rd.nil w _ 1 none, Nat.le_refl _, by simp [maxLen], by simp⟩
  · have hlen : (zs.take len).length = len := by rw [List.length_take]; omega
    refine ⟨zs.take len, hlen, ⟨by rw [List.length_map, hlen]; omega, fun hn => ⟨x, rfl, ?_, fun j u hu => ?_⟩⟩, hl, hm, fun n hn => hw n (List.mem_of_mem_take hn)⟩
    · have h0 := hc 0 (by omega)
      have h1 := block_lt_of_cell h0
      rwa [add_block] at h1
    · rw [List.getElem?_map] at hu
      have hj : j < len := by
        rcases Nat.lt_or_ge j len with h | h
        · exact h
        · rw [List.getElem?_eq_none (by omega)] at hu; cases hu
      rw [List.getElem?_take, if_pos hj, List.getElem?_eq_getElem (by omega)] at hu
      simp only [Option.map_some, Option.some.injEq] at hu
      subst hu
      rw [hc j (by omega), List.getD_eq_getElem?_getD, List.getElem?_eq_getElem (by omega)]
      rfl

theorem nats_of {l : List Int} (h : ∀ n ∈ l, 0 ≤ n) : l = (l.map Int.toNat).map fun (b : Nat) => (b : Int) := by
  rw [List.map_map]
  conv => lhs; rw [← List.map_id l]
  apply List.map_congr_left
  intro n hn
  have := h n hn
  show n = ((n.toNat : Nat) : Int)
  omega

/-- A slice of bytes that came in. -/
theorem bytes_of_row {w : World} {a : Option Addr} {len cap : Nat} {zs : List Int} (h : (a = none ∧ len = 0 ∧ cap = 0 ∧ zs = []) ∨
    ∃ x, a = some x ∧ len ≤ cap ∧ cap ≤ maxLen ∧ zs.length = cap ∧ (∀ i, i < zs.length → w.cell? (x.add i) = some (.int .u8 (zs.getD i 0))) ∧ ∀ n ∈ zs, (Lit.int .u8 n).wf = true) :
    ∃ l : List Nat, l.length = len ∧ Bytes w w.heap.size a l ∧ len ≤ cap ∧ cap ≤ maxLen := by
  obtain ⟨l, hlen, hr, hc, hm, hw⟩ := rd_of_row h
  have hb : ∀ n ∈ l, 0 ≤ n ∧ n ≤ 255 := fun n hn => bounds_u8 (hw n hn)
  have e := nats_of fun n hn => (hb n hn).1
  refine ⟨l.map Int.toNat, by simpa using hlen, ⟨?_, ?_⟩, hc, hm⟩
  · rw [List.length_map, hlen]
    have : u8s (l.map Int.toNat) = l.map (Value.int .u8) := by
      conv => rhs; rw [e]
      simp [u8s]
    rw [this]
    exact hr
  · intro b hb'
    simp only [List.mem_map] at hb'
    obtain ⟨n, hn, rfl⟩ := hb'
    have := hb n hn
    omega

theorem nat_u64 {n : Int} (h : (Lit.int .u64 n).wf = true) : ∃ k : Nat, n = (k : Int) ∧ k < 18446744073709551616 := by
  have := bounds_u64 h
  exact ⟨n.toNat, by omega, by omega⟩
theorem nat_u32 {n : Int} (h : (Lit.int .u32 n).wf = true) : ∃ k : Nat, n = (k : Int) ∧ k < 4294967296 := by
  have := bounds_u32 h
  exact ⟨n.toNat, by omega, by omega⟩
end Go.Proofs.Ytbddgmikbpggeaa
