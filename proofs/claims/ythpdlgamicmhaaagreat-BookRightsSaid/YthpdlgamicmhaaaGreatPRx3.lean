/- Written by a program (pe.py): functions of the program as Lean functions, and that each call answers as they do. -/
import Derived.Test.YthpdlgamicmhaaaGreatPRx0
namespace Go.Proofs.YthpdlgamicmhaaaGreat.PR
open Go.RowKit Go.Proofs.YthpdlgamicmhaaaGreatW.PrintWords Go.Proofs.YthpdlgamicmhaaaGreatW.PrintLast Go.Proofs.YthpdlgamicmhaaaGreatW.PrintMore
attribute [local go_sem] max2_int min2_int max_two min_two max_three min_three max_four min_four   -- for this text's walks alone
set_option linter.unusedVariables false
set_option linter.unusedSimpArgs false

theorem eqA62 (d : Nat) (w : World) (x0 y0 : ByteArray) (x1 y1 : Int) (x2 y2 : Int) (x3 y3 : Bool) (x4 y4 : Bool) (x5 y5 : Bool) :
    (Op.equalIn (d + 2) 62 (.agg #[.string x0, .int .i64 x1, .int .i64 x2, .bool x3, .bool x4, .bool x5]) (.agg #[.string y0, .int .i64 y1, .int .i64 y2, .bool y3, .bool y4, .bool y5])).run Tryz.prog w = .ok (x0.toList == y0.toList && (x1 == y1 && (x2 == y2 && (x3 == y3 && (x4 == y4 && (x5 == y5)))))) w := by
  refine eqA_of Tryz.underlying62 (by kernel_rfl) ?_
  refine eqf_cons (by rfl) (by go_simp; rfl) (by go_simp; rfl) (by go_simp) ?_
  refine eqf_cons (by rfl) (by go_simp; rfl) (by go_simp; rfl) (by go_simp) ?_
  refine eqf_cons (by rfl) (by go_simp; rfl) (by go_simp; rfl) (by go_simp) ?_
  refine eqf_cons (by rfl) (by go_simp; rfl) (by go_simp; rfl) (by go_simp) ?_
  refine eqf_cons (by rfl) (by go_simp; rfl) (by go_simp; rfl) (by go_simp) ?_
  exact eqf_last (by rfl) (by go_simp; rfl) (by go_simp; rfl) (by go_simp)
end Go.Proofs.YthpdlgamicmhaaaGreat.PR
