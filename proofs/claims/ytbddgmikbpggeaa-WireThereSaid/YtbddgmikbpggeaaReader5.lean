/- The contracts of wire.Reader's other methods, and of NewReader. -/
import Derived.Test.YtbddgmikbpggeaaReader4
import Derived.BigQuiet
namespace Go.Proofs.Ytbddgmikbpggeaa
open Go.RowKit
set_option linter.unusedVariables false
set_option linter.unusedSimpArgs false

set_option maxHeartbeats 400000 in
theorem left_calls (g : Nat) (A : Option Addr) (l : List Nat) (c at_ er : Nat) (w : World) (hR0 : Rdr w g A l c at_ er) :
    Calls Try.prog 33 #[.pointer (some ⟨g, 0, none⟩)] w fun e w' => e = .returned (.int .i64 ((l.length - at_ : Nat) : Int)) ∧ ∃ q, w' = w.drewN q := by
  have h0 : w.cell? ⟨g, 0, none⟩ = some (.slice A l.length c) := hR0.blk.cell 0
  have h1 : w.cell? ⟨g, 1, none⟩ = some (.int .i64 (at_ : Int)) := hR0.blk.cell 1
  obtain ⟨d, hd, hd2⟩ : ∃ d : Nat, (l.length : Int) - (at_ : Int) = (d : Int) ∧ d = l.length - at_ := ⟨l.length - at_, by have := hR0.at_le; omega, rfl⟩
  have hf := hR0.few
  rw [← hd2]
  have HD := Lib.hid hd2
  clear hd2
  have hdf : d ≤ 900000 := by have := HD.out; omega
  go_enter Try.func33, Try.ntmps33
  go_wp2_with fail
  go_quiet (fail)
  go_wp2
  go_ret
  exact ⟨rfl, _, rfl⟩

set_option maxHeartbeats 400000 in
theorem err_calls (g : Nat) (A : Option Addr) (l : List Nat) (c at_ er : Nat) (w : World) (hR0 : Rdr w g A l c at_ er) :
    Calls Try.prog 35 #[.pointer (some ⟨g, 0, none⟩)] w fun e w' => e = .returned (.int .i64 (er : Int)) ∧ w = w' := by
  have h2 : w.cell? ⟨g, 2, none⟩ = some (.int .i64 (er : Int)) := hR0.blk.cell 2
  go_enter Try.func35, Try.ntmps35
  go_wp2
  go_ret
  exact ⟨rfl, rfl⟩

/-- That nothing is left. -/
def endV (l : List Nat) (at_ er : Nat) : Nat := if er = 0 ∧ at_ < l.length then 3 else er

set_option maxHeartbeats 400000 in
theorem end_calls (g : Nat) (A : Option Addr) (l : List Nat) (c at_ er : Nat) (w : World) (hR0 : Rdr w g A l c at_ er) :
    Calls Try.prog 32 #[.pointer (some ⟨g, 0, none⟩)] w fun e w' => e = .returned (.int .i64 (endV l at_ er : Int)) ∧ ∃ q, w' = w.drewN q := by
  by_cases he : er = 0
  · subst he
    by_cases ha : at_ < l.length
    · have hv : endV l at_ 0 = 3 := by unfold endV; rw [if_pos ⟨rfl, ha⟩]
      rw [hv]
      have hp : 0 < ((l.length - at_ : Nat) : Int) := by omega
      go_enter Try.func32, Try.ntmps32
      go_wp2_with fail
      refine (err_calls g A l c at_ 0 w hR0).mono ?_
      rintro e w' ⟨rfl, rfl⟩
      go_wp2_with fail
      refine (left_calls g A l c at_ 0 w hR0).mono ?_
      rintro e w' ⟨rfl, q, rfl⟩
      generalize l.length - at_ = d at *
      go_wp2
      go_ret
      exact ⟨rfl, q, rfl⟩
    · have hv : endV l at_ 0 = 0 := by unfold endV; rw [if_neg (by omega)]
      rw [hv]
      have hp : l.length - at_ = 0 := by omega
      go_enter Try.func32, Try.ntmps32
      go_wp2_with fail
      refine (err_calls g A l c at_ 0 w hR0).mono ?_
      rintro e w' ⟨rfl, rfl⟩
      go_wp2_with fail
      refine (left_calls g A l c at_ 0 w hR0).mono ?_
      rintro e w' ⟨rfl, q, rfl⟩
      rw [hp]
      go_wp2
      go_ret
      exact ⟨rfl, q, rfl⟩
  · have hv : endV l at_ er = er := by unfold endV; rw [if_neg (by omega)]
    rw [hv]
    have he' : ¬ ((er : Nat) : Int) = 0 := by omega
    go_enter Try.func32, Try.ntmps32
    go_wp2_with fail
    refine (err_calls g A l c at_ er w hR0).mono ?_
    rintro e w' ⟨rfl, rfl⟩
    go_wp2
    go_ret
    exact ⟨rfl, 0, rfl⟩

set_option maxHeartbeats 400000 in
theorem newReader_calls (A : Option Addr) (c : Nat) (l : List Nat) (w : World) (ha : Bytes w w.heap.size A l) (hl : l.length ≤ 900000) :
    Calls Try.prog 28 #[.slice A l.length c] w fun e w' => ∃ g A' c', e = .returned (.pointer (some ⟨g, 0, none⟩)) ∧ w.heap.size ≤ g ∧ Rdr w' g A' l c' 0 0 ∧ Below w.heap.size w w' := by
  go_enter Try.func28, Try.ntmps28
  go_wp2_with fail
  refine (put_calls none A 0 c [] l w (Bytes.nil _ _ _) ha (Few.mk (by simp; omega))).mono ?_
  rintro e w1 ⟨v, rfl, hown, hbw⟩
  rw [List.nil_append] at hown
  obtain ⟨A1, c1, rfl, hby, hc1, _⟩ := hown.bytes
  generalize hq : l.length = q at *
  go_wp2_with fail
  go_ret
  have hb2 := alloc_below w1 (.cells #[.slice A1 q c1, .int .i64 0, .int .i64 0] 108)
  exact ⟨w1.heap.size, A1, c1, rfl, hbw.size, ⟨by rw [hq]; exact Blk.new w1 _ _, hby.below hb2, by omega, by omega, by omega, by omega⟩, below_then hbw hb2⟩
end Go.Proofs.Ytbddgmikbpggeaa
