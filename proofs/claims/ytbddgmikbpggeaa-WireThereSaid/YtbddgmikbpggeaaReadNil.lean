/- The contracts of wire.Reader's methods on a nil reader. -/
import Derived.Test.YtbddgmikbpggeaaRef2
namespace Go.Proofs.Ytbddgmikbpggeaa
open Go.RowKit
set_option linter.unusedVariables false
set_option linter.unusedSimpArgs false

set_option maxHeartbeats 400000 in
theorem read_nil (fv : Value) (w : World) : Calls Try.prog 56 #[.pointer none, fv] w fun e w' => e = .returned (.bool false) ∧ w = w' := by
  go_enter Try.func56, Try.ntmps56
  go_wp2
  go_ret
  exact ⟨rfl, rfl⟩

theorem makeFunc_run (fn : Fn) (first cap : Array Value) (w : World) : (Instr.makeFunc fn first cap).run Try.prog w = .ok (.func fn first cap) w := rfl

set_option maxHeartbeats 400000 in
theorem byte_nil (w : World) : Calls Try.prog 34 #[.pointer none] w fun e w' => e = .returned (.int .u8 0) ∧ Below w.heap.size w w' := by
  have hmf := makeFunc_run
  go_enter Try.func34, Try.ntmps34
  go_wp2_with (first
    | (go_at_call 56
       refine (read_nil _ _).mono ?_
       rintro e w' ⟨rfl, rfl⟩))
  go_ret
  exact ⟨rfl, alloc_below w _⟩

set_option maxHeartbeats 400000 in
theorem word_nil (w : World) : Calls Try.prog 31 #[.pointer none] w fun e w' => e = .returned (.int .u32 0) ∧ Below w.heap.size w w' := by
  have hmf := makeFunc_run
  go_enter Try.func31, Try.ntmps31
  go_wp2_with (first
    | (go_at_call 56
       refine (read_nil _ _).mono ?_
       rintro e w' ⟨rfl, rfl⟩))
  go_ret
  exact ⟨rfl, alloc_below w _⟩

set_option maxHeartbeats 400000 in
theorem var_nil (m : Int) (w : World) : Calls Try.prog 29 #[.pointer none, .int .u64 m] w fun e w' => e = .returned (.int .u64 0) ∧ Below w.heap.size w w' := by
  have hmf := makeFunc_run
  go_enter Try.func29, Try.ntmps29
  go_wp2_with (first
    | (go_at_call 56
       refine (read_nil _ _).mono ?_
       rintro e w' ⟨rfl, rfl⟩))
  go_ret
  exact ⟨rfl, below_then (alloc_below w _) (alloc_below _ _)⟩

set_option maxHeartbeats 400000 in
theorem text_nil (m : Int) (w : World) : Calls Try.prog 30 #[.pointer none, .int .i64 m] w fun e w' => e = .returned (.string ⟨#[]⟩) ∧ Below w.heap.size w w' := by
  have hmf := makeFunc_run
  go_enter Try.func30, Try.ntmps30
  go_wp2_with (first
    | (go_at_call 56
       refine (read_nil _ _).mono ?_
       rintro e w' ⟨rfl, rfl⟩))
  go_ret
  exact ⟨rfl, below_then (alloc_below w _) (alloc_below _ _)⟩

set_option maxHeartbeats 400000 in
theorem left_nil (w : World) : Calls Try.prog 33 #[.pointer none] w fun e w' => e = .returned (.int .i64 0) ∧ w = w' := by
  go_enter Try.func33, Try.ntmps33
  go_wp2
  go_ret
  exact ⟨rfl, rfl⟩

set_option maxHeartbeats 400000 in
theorem err_nil (w : World) : Calls Try.prog 35 #[.pointer none] w fun e w' => e = .returned (.int .i64 1) ∧ w = w' := by
  go_enter Try.func35, Try.ntmps35
  go_wp2
  go_ret
  exact ⟨rfl, rfl⟩

set_option maxHeartbeats 400000 in
theorem end_nil (w : World) : Calls Try.prog 32 #[.pointer none] w fun e w' => e = .returned (.int .i64 1) ∧ w = w' := by
  go_enter Try.func32, Try.ntmps32
  go_wp2_with (go_at_call 35; refine (err_nil _).mono ?_; rintro e w' ⟨rfl, rfl⟩)
  go_ret
  exact ⟨rfl, rfl⟩

set_option maxRecDepth 100000 in
set_option maxHeartbeats 800000 in
theorem wireNil_walk (n m : Int) (w : World) :
    Calls Try.prog 8 #[.int .i64 n, .int .u64 m] w fun e w' => e = .returned (.bool true) ∧ Below w.heap.size w w' := by
  go_enter Try.func8, Try.ntmps8
  go_wp2_with fail
  refine (known2_calls _).mono ?_
  rintro e w1 ⟨rfl, hB⟩
  go_wp2_with fail
  refine (byte_nil _).mono ?_
  rintro e w2 ⟨rfl, hb⟩
  replace hB := below_then hB hb
  clear hb
  go_wp2_with fail
  refine (word_nil _).mono ?_
  rintro e w3 ⟨rfl, hb⟩
  replace hB := below_then hB hb
  clear hb
  go_wp2_with fail
  refine (var_nil _ _).mono ?_
  rintro e w4 ⟨rfl, hb⟩
  replace hB := below_then hB hb
  clear hb
  go_wp2_with fail
  refine (text_nil _ _).mono ?_
  rintro e w5 ⟨rfl, hb⟩
  replace hB := below_then hB hb
  clear hb
  go_wp2_with fail
  refine (left_nil _).mono ?_
  rintro e w6 ⟨rfl, rfl⟩
  go_wp2_with fail
  refine (err_nil _).mono ?_
  rintro e w6 ⟨rfl, rfl⟩
  go_wp2_with fail
  refine (end_nil _).mono ?_
  rintro e w6 ⟨rfl, rfl⟩
  go_wp2
  go_ret
  exact ⟨rfl, hB⟩
end Go.Proofs.Ytbddgmikbpggeaa
