/- The statement BookRights: whatever the input, the call returns true, and each argument reads behind it as it did. No condition. -/
import Derived.Test.YthpdlgamicmhaaaGreatRows
import Derived.Test.YthpdlgamicmhaaaGreatPRx23
import Derived.Test.YthpdlgamicmhaaaGreatKindsBookRights
import Derived.Test.YthpdlgamicmhaaaGreatOwnBookRights
import Derived.WalkKit
import Derived.ProofKit
import Derived.OpenShut
import Derived.ShutString
import Derived.ChangeOld
import Derived.Below
import Derived.SizedLaws
namespace Go.Proofs.YthpdlgamicmhaaaGreat.bookRights
open Go.ChangeShapes Go.WideShapes Go.ChangeAt Go.RowKit
open Go.ChangeMaps (open_string shut_string)
open Go.Proofs.YthpdlgamicmhaaaGreat.PR Go.Proofs.YthpdlgamicmhaaaGreatW.PrintWords Go.Proofs.YthpdlgamicmhaaaGreat.KS
set_option linter.unusedVariables false

theorem own : ownKnob Tryz.prog.godebug = none := by kernel_rfl
theorem laidOut : laidOutB Tryz.prog = true := by kernel_rfl

theorem walk (c0 : Array Value) (x0 : S30) (w : World) (r0 : k30.K w x0 c0.toList) (o0 : ok30 x0) :
  Calls Tryz.prog 4 #[(.agg c0)] w fun e w' => e = .returned (.bool true) ∧ Below w.heap.size w w' := by
 obtain ⟨A0_1, e0_1, A0_2, e0_2, A0_4, e0_4, A0_5, e0_5, A0_6, e0_6, hh0, hl0_1, hc0_1, hl0_2, hc0_2, hl0_4, hc0_4, hl0_5, hc0_5, hl0_6, hc0_6⟩ := k30_open r0
 obtain rfl : c0 = #[.string x0.f0, .slice A0_1 x0.f1.length e0_1, .slice A0_2 x0.f2.length e0_2, .int .i64 x0.f3, .slice A0_4 x0.f4.length e0_4, .slice A0_5 x0.f5.length e0_5, .slice A0_6 x0.f6.length e0_6] := Array.toList_inj.1 hh0
 obtain ⟨k, h⟩ := Go.Proofs.YthpdlgamicmhaaaGreat.Pure.BookRights x0 o0
 refine (L06_BookRights.calls k x0.f0 _ _ x0.f1 _ _ x0.f2 x0.f3 _ _ x0.f4 _ _ x0.f5 _ _ x0.f6 true w hc0_1 hl0_1 hc0_2 hl0_2 hc0_4 hl0_4 hc0_5 hl0_5 hc0_6 hl0_6 h).mono ?_
 rintro e w' ⟨rfl, hd⟩
 exact ⟨rfl, by first | exact hd | exact hd.below⟩

set_option maxRecDepth 100000 in
theorem lifted (os : Os) (started : os.Started) (H : Type) (enc : TypeId × Value → H) :
  ReturnsInHanded {} Tryz.checked os 4 .any (Rows.bookRightsSpec.pre6 enc Tryz.prog Tryz.f4 Rows.bookRightsRow.domain false) (Rows.bookRightsSpec.post enc Tryz.prog Tryz.f4 false true false false) := by
 refine returnsInHanded_of_change_sized (C := Tryz.checked) own started (by kernel_rfl) Tryz.func4
  (ChangeSpec.witness6 (enc := enc) (C := Tryz.checked) false ⟨#[], #[(.agg #[.string ByteArray.empty, .slice none 0 0, .slice none 0 0, .int .i64 0, .slice none 0 0, .slice none 0 0, .slice none 0 0])], []⟩ 8 (by kernel_rfl) (by kernel_rfl) (by kernel_rfl) (by kernel_rfl)) ?_
 intro W base args ds gs before hval0 hW hcnd hsz0 _
 have hsz : (DataW.weightsEach Tryz.prog (Tryz.f4.params.toList ++ Rows.bookRightsSpec.plain.varTypes Tryz.prog) (ds ++ gs)).all (· ≤ reachBytes) = true := hsz0
 have hval : ∀ (j : Nat) t v, Tryz.f4.params[j]? = some t → args[j]? = some v → Value.okWide Tryz.prog W .any base t v := hval0
 have hW' := hW
 obtain ⟨p, q, hA0, hV, rfl, hfz, hnd⟩ := hW
 have hA : DataW.TrodAll enc Tryz.prog W 0 (fun _ => true) true Tryz.f4.params.toList args.toList ds p := hA0
 rw [Tryz.params4] at hA hval
 obtain ⟨v0, vs0, d0, ds0, p0, q0, hargs, rfl, rfl, h0, r0⟩ := trodAll_cons hA
 obtain ⟨rfl, rfl, rfl⟩ := trodAll_nil r0
 obtain rfl : args = #[v0] := by cases args; simp_all
 obtain ⟨rfl, rfl⟩ := trodVars_none hV
 have k0 := h0
 have lt0 : ∀ x ∈ p0, x.block < W.heap.size := by obtain ⟨m, hm⟩ := k0; exact DataW.trod_lt m _ _ _ hm
 obtain ⟨c0, rfl, sz0⟩ := okWide_struct Tryz.underlying30 (hval 0 30 v0 rfl rfl)
 have wt0 : (d0.weights Tryz.prog 30).all (· ≤ reachBytes) = true := List.all_eq_true.2 fun m hm => List.all_eq_true.1 hsz m (DataW.weights_mem_each (j := 0) rfl rfl m hm)
 obtain ⟨x0, w0, o0⟩ : ∃ x, k30.K W x c0.toList ∧ ok30 x := by obtain ⟨fuel, hf⟩ := h0; exact ks30.opens (x := (d0, p0)) (by simpa [Value.cells] using hf) wt0
 clear hA0 hval0 hsz0 hsz
 refine (walk c0 x0 W w0 o0).mono fun e W' ⟨he, bel⟩ => ?_
 subst he
 exact ⟨_, rfl, _, _, _, [], _, [], hW', trodAll_mk1 (shut_bool Tryz.underlying4 _), (trodAll_cons_mk (Below.trod laidOut (by kernel_rfl) (of_decide_eq_true (by kernel_rfl)) k0 bel lt0) trodAll_mk0), rfl, bel.frame _, fun h => by cases h⟩

theorem over : Rows.bookRightsRow.holds Tryz.pinned (OpenSpec.ofChange Rows.bookRightsSpec) :=
 OpenClaim.holds_of_wide 4 Tryz.f4 rfl rfl rfl rfl rfl rfl rfl ⟨rfl, rfl, rfl, rfl, rfl⟩ rfl rfl rfl rfl rfl (by kernel_rfl) Tryz.func4 (by kernel_rfl)
  (of_decide_eq_true (by kernel_rfl)) (by unfold Func.isWrapper; first | (rw [if_pos (by decide +kernel)]; kernel_rfl) | (rw [if_neg (by decide +kernel)]; exact ⟨rfl, rfl⟩))
  (fun os started H enc _ => lifted os started H enc)

/-- ████ THE STATEMENT ████ -/
theorem proved : Rows.BookRightsSaid := over
#print axioms proved
end Go.Proofs.YthpdlgamicmhaaaGreat.bookRights
