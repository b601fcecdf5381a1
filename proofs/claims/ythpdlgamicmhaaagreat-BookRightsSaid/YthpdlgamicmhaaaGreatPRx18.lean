/- Written by a program (pe.py): functions of the program as Lean functions, and that each call answers as they do. -/
import Derived.Test.YthpdlgamicmhaaaGreatPRx0
import Derived.Test.YthpdlgamicmhaaaGreatPRx14
namespace Go.Proofs.YthpdlgamicmhaaaGreat.PR
open Go.RowKit Go.Proofs.YthpdlgamicmhaaaGreatW.PrintWords Go.Proofs.YthpdlgamicmhaaaGreatW.PrintLast Go.Proofs.YthpdlgamicmhaaaGreatW.PrintMore
attribute [local go_sem] max2_int min2_int max_two min_two max_three min_three max_four min_four   -- for this text's walks alone
set_option linter.unusedVariables false
set_option linter.unusedSimpArgs false

/-! ### book_Module_Size: function 17 -/
mutual
def book_Module_Size.l0 : Nat → Int → List (S52) → Int → Int → ByteArray → List (S52) → List (S67) → Int → List (S74) → List (S77) → List (S64) → Option (Int)
  | 0, _, _, _, _, _, _, _, _, _, _, _ => none
  | k + 1, x3, x30, x31, x32, x243000, x243001, x243002, x243003, x243004, x243005, x243006 => if x32 < x31 then (if 0 ≤ x32 then (if x32 < (x30.length : Int) then (book_Module_Size.l0 k (wrap64 (x3 + (wrap64 ((wrap64 ((wrap64 ((wrap64 ((wrap64 ((wrap64 ((wrap64 ((wrap64 ((((rd_T52 x30 x32).f1).length : Int) + (((rd_T52 x30 x32).f2).length : Int))) + (((rd_T52 x30 x32).f3).length : Int))) + (((rd_T52 x30 x32).f4).length : Int))) + (((rd_T52 x30 x32).f5).length : Int))) + (((rd_T52 x30 x32).f6).length : Int))) + (((rd_T52 x30 x32).f7).length : Int))) + (((rd_T52 x30 x32).f8).length : Int))) + (((rd_T52 x30 x32).f9).length : Int))))) x30 x31 (wrap64 (x32 + 1)) x243000 x243001 x243002 x243003 x243004 x243005 x243006) else (none)) else (none)) else (book_Module_Size.l1 k x3 x243002 (x243002.length : Int) 0 x243000 x243001 x243002 x243003 x243004 x243005 x243006)
def book_Module_Size.l1 : Nat → Int → List (S67) → Int → Int → ByteArray → List (S52) → List (S67) → Int → List (S74) → List (S77) → List (S64) → Option (Int)
  | 0, _, _, _, _, _, _, _, _, _, _, _ => none
  | k + 1, x3, x75, x76, x77, x243000, x243001, x243002, x243003, x243004, x243005, x243006 => if x77 < x76 then (if 0 ≤ x77 then (if x77 < (x75.length : Int) then (book_Module_Size.l1 k (wrap64 (x3 + (((rd_T67 x75 x77).f2).length : Int))) x75 x76 (wrap64 (x77 + 1)) x243000 x243001 x243002 x243003 x243004 x243005 x243006) else (none)) else (none)) else (book_Module_Size.l2 k x3 x243004 (x243004.length : Int) 0)
def book_Module_Size.l2 : Nat → Int → List (S74) → Int → Int → Option (Int)
  | 0, _, _, _, _ => none
  | k + 1, x3, x88, x89, x90 => if x90 < x89 then (if 0 ≤ x90 then (if x90 < (x88.length : Int) then (book_Module_Size.l2 k (wrap64 (x3 + (((rd_T74 x88 x90).f1).length : Int))) x88 x89 (wrap64 (x90 + 1))) else (none)) else (none)) else (some x3)
end
def book_Module_Size.f (k : Nat) (a0_0 : ByteArray) (l0_1 : List (S52)) (l0_2 : List (S67)) (a0_3 : Int) (l0_4 : List (S74)) (l0_5 : List (S77)) (l0_6 : List (S64)) : Option (Int) := book_Module_Size.l0 k (wrap64 ((wrap64 ((wrap64 ((wrap64 ((l0_1.length : Int) + (l0_2.length : Int))) + (l0_4.length : Int))) + (l0_5.length : Int))) + (l0_6.length : Int))) l0_1 (l0_1.length : Int) 0 a0_0 l0_1 l0_2 a0_3 l0_4 l0_5 l0_6
theorem book_Module_Size.mono_l : ∀ k, (∀ y0 y1 y2 y3 y4 y5 y6 y7 y8 y9 y10, LeO (book_Module_Size.l0 k y0 y1 y2 y3 y4 y5 y6 y7 y8 y9 y10) (book_Module_Size.l0 (k + 1) y0 y1 y2 y3 y4 y5 y6 y7 y8 y9 y10)) ∧ (∀ y0 y1 y2 y3 y4 y5 y6 y7 y8 y9 y10, LeO (book_Module_Size.l1 k y0 y1 y2 y3 y4 y5 y6 y7 y8 y9 y10) (book_Module_Size.l1 (k + 1) y0 y1 y2 y3 y4 y5 y6 y7 y8 y9 y10)) ∧ (∀ y0 y1 y2 y3, LeO (book_Module_Size.l2 k y0 y1 y2 y3) (book_Module_Size.l2 (k + 1) y0 y1 y2 y3))
  | 0 => ⟨fun _ _ _ _ _ _ _ _ _ _ _ r h => by simp [book_Module_Size.l0] at h, fun _ _ _ _ _ _ _ _ _ _ _ r h => by simp [book_Module_Size.l1] at h, fun _ _ _ _ r h => by simp [book_Module_Size.l2] at h⟩
  | k + 1 => by
    obtain ⟨ih0, ih1, ih2⟩ := book_Module_Size.mono_l k
    refine ⟨?_, ?_, ?_⟩
    · intro y0 y1 y2 y3 y4 y5 y6 y7 y8 y9 y10
      unfold book_Module_Size.l0
      repeat' first | (with_reducible apply ih0) | (with_reducible apply ih1) | (with_reducible apply ih2) | (with_reducible exact LeO.refl _) | (with_reducible exact LeO.none _) | (with_reducible refine LeO.ite ?_ ?_) | (with_reducible refine LeO.bind ?_ (fun _ => ?_)) | apply LeO.none | apply LeO.ite | (refine LeO.bind ?_ (fun _ => ?_))
    · intro y0 y1 y2 y3 y4 y5 y6 y7 y8 y9 y10
      unfold book_Module_Size.l1
      repeat' first | (with_reducible apply ih0) | (with_reducible apply ih1) | (with_reducible apply ih2) | (with_reducible exact LeO.refl _) | (with_reducible exact LeO.none _) | (with_reducible refine LeO.ite ?_ ?_) | (with_reducible refine LeO.bind ?_ (fun _ => ?_)) | apply LeO.none | apply LeO.ite | (refine LeO.bind ?_ (fun _ => ?_))
    · intro y0 y1 y2 y3
      unfold book_Module_Size.l2
      repeat' first | (with_reducible apply ih0) | (with_reducible apply ih1) | (with_reducible apply ih2) | (with_reducible exact LeO.refl _) | (with_reducible exact LeO.none _) | (with_reducible refine LeO.ite ?_ ?_) | (with_reducible refine LeO.bind ?_ (fun _ => ?_)) | apply LeO.none | apply LeO.ite | (refine LeO.bind ?_ (fun _ => ?_))
theorem book_Module_Size.mono : ∀ a0 a1 a2 a3 a4 a5 a6 k, LeO (book_Module_Size.f k a0 a1 a2 a3 a4 a5 a6) (book_Module_Size.f (k + 1) a0 a1 a2 a3 a4 a5 a6) := by
  intro a0 a1 a2 a3 a4 a5 a6 k
  obtain ⟨ih0, ih1, ih2⟩ := book_Module_Size.mono_l k
  unfold book_Module_Size.f
  repeat' first | (with_reducible apply ih0) | (with_reducible apply ih1) | (with_reducible apply ih2) | (with_reducible exact LeO.refl _) | (with_reducible exact LeO.none _) | (with_reducible refine LeO.ite ?_ ?_) | (with_reducible refine LeO.bind ?_ (fun _ => ?_)) | apply LeO.none | apply LeO.ite | (refine LeO.bind ?_ (fun _ => ?_))
set_option maxHeartbeats 8000000 in
set_option maxRecDepth 100000 in
theorem book_Module_Size.calls (k : Nat) (a0_0 : ByteArray) (A0_1 : Option Addr) (c0_1 : Nat) (l0_1 : List (S52)) (A0_2 : Option Addr) (c0_2 : Nat) (l0_2 : List (S67)) (a0_3 : Int) (A0_4 : Option Addr) (c0_4 : Nat) (l0_4 : List (S74)) (A0_5 : Option Addr) (c0_5 : Nat) (l0_5 : List (S77)) (A0_6 : Option Addr) (c0_6 : Nat) (l0_6 : List (S64)) (r : Int) (w : World) (hr0_1 : Kd.C k52 w A0_1 l0_1.length l0_1) (hc0_1 : l0_1.length ≤ c0_1) (hr0_2 : Kd.C k67 w A0_2 l0_2.length l0_2) (hc0_2 : l0_2.length ≤ c0_2) (hr0_4 : Kd.C k74 w A0_4 l0_4.length l0_4) (hc0_4 : l0_4.length ≤ c0_4) (hr0_5 : Kd.C k77 w A0_5 l0_5.length l0_5) (hc0_5 : l0_5.length ≤ c0_5) (hr0_6 : Kd.C k64 w A0_6 l0_6.length l0_6) (hc0_6 : l0_6.length ≤ c0_6) (h : book_Module_Size.f k a0_0 l0_1 l0_2 a0_3 l0_4 l0_5 l0_6 = some r) :
    Calls Tryz.prog 17 #[.agg #[.string a0_0, .slice A0_1 l0_1.length c0_1, .slice A0_2 l0_2.length c0_2, .int .i64 a0_3, .slice A0_4 l0_4.length c0_4, .slice A0_5 l0_5.length c0_5, .slice A0_6 l0_6.length c0_6]] w fun e w' => e = .returned (.int .i64 r) ∧ Below w.heap.size w w' := by
 have HR0_1 := Aside0.mk hr0_1; have HC0_1 := Aside0.mk hc0_1; clear hr0_1 hc0_1; have HR0_2 := Aside0.mk hr0_2; have HC0_2 := Aside0.mk hc0_2; clear hr0_2 hc0_2; have HR0_4 := Aside0.mk hr0_4; have HC0_4 := Aside0.mk hc0_4; clear hr0_4 hc0_4; have HR0_5 := Aside0.mk hr0_5; have HC0_5 := Aside0.mk hc0_5; clear hr0_5 hc0_5; have HR0_6 := Aside0.mk hr0_6; have HC0_6 := Aside0.mk hc0_6; clear hr0_6 hc0_6; unfold book_Module_Size.f at h; have H := Aside0.mk h; clear h; have HB := Aside0.mk (Below.refl w.heap.size w); have hu30 := Tryz.underlying30; have hu52 := Tryz.underlying52; have hu67 := Tryz.underlying67; have hu74 := Tryz.underlying74; go_enter Tryz.func17, Tryz.ntmps17; have BK337 := Aside0.mk (pe_box0 w #[.string a0_0, .slice A0_1 l0_1.length c0_1, .slice A0_2 l0_2.length c0_2, .int .i64 a0_3, .slice A0_4 l0_4.length c0_4, .slice A0_5 l0_5.length c0_5, .slice A0_6 l0_6.length c0_6] 30); replace HB := Aside0.mk (below_alloc HB.out (.cells #[.string a0_0, .slice A0_1 l0_1.length c0_1, .slice A0_2 l0_2.length c0_2, .int .i64 a0_3, .slice A0_4 l0_4.length c0_4, .slice A0_5 l0_5.length c0_5, .slice A0_6 l0_6.length c0_6] 30)); go_wp2_with fail; go_loopg [3, 32] k (fun kq v3 v32 w' => ∃ (x3_338 : Int) (x32_338 : Int), v3 = .int .i64 x3_338 ∧ v32 = .int .i64 x32_338 ∧ Aside0 (book_Module_Size.l0 kq x3_338 l0_1 (l0_1.length : Int) x32_338 a0_0 l0_1 l0_2 a0_3 l0_4 l0_5 l0_6 = some r) ∧ Aside0 (kq ≤ k) ∧ Aside0 (w'.heap[w.heap.size]? = some (.cells #[.string a0_0, .slice A0_1 l0_1.length c0_1, .slice A0_2 l0_2.length c0_2, .int .i64 a0_3, .slice A0_4 l0_4.length c0_4, .slice A0_5 l0_5.length c0_5, .slice A0_6 l0_6.length c0_6] 30 (0, 0))) ∧ Aside0 (Below w.heap.size w w'))
 case atStart => exact ⟨(wrap64 ((wrap64 ((wrap64 ((wrap64 ((l0_1.length : Int) + (l0_2.length : Int))) + (l0_4.length : Int))) + (l0_5.length : Int))) + (l0_6.length : Int))), 0, (by first | rfl | (simp; done) | (simp [*]; done)), (by first | rfl | (simp; done) | (simp [*]; done)), H, ⟨Nat.le_refl _⟩, BK337, HB⟩
 case round =>
  clear H HB BK337; obtain ⟨x3_338, x32_338, rfl, rfl, HA, HK338, BK337, HB⟩ := hrel
  cases gk with
  | zero => exact absurd HA.out (by simp [book_Module_Size.l0])
  | succ k338 =>
   have H1 := HA.out; simp only [book_Module_Size.l0] at H1; have H := Aside0.mk H1; clear H1 HA; have Z337 := blk7 BK337.out; by_cases c339 : x32_338 < ((l0_1.length : Int))
   · replace H := a0p c339 H; have c339b0 : decide (x32_338 < ((l0_1.length : Int))) = true := decide_eq_true c339; have Kc339 := Aside0.mk c339; clear c339; by_cases c340 : 0 ≤ x32_338
     · replace H := a0p c340 H; have c340b0 : decide (0 ≤ x32_338) = true := decide_eq_true c340; have Kc340 := Aside0.mk c340; clear c340; by_cases c341 : x32_338 < (l0_1.length : Int)
       · replace H := a0p c341 H; have c341b0 : decide (x32_338 < (l0_1.length : Int)) = true := decide_eq_true c341; have Kc341 := Aside0.mk c341; clear c341; have p243 : 0 ≤ (x32_338 : Int) := Kc340.out; have q243 : x32_338 < (l0_1.length : Int) := Kc341.out; obtain ⟨ad243, A243_1, c243_1, A243_2, c243_2, A243_3, c243_3, A243_4, c243_4, A243_5, c243_5, A243_6, c243_6, A243_7, c243_7, A243_8, c243_8, A243_9, c243_9, e243, hx243_0, hx243_1, hx243_2, hx243_3, hx243_4, hx243_5, hx243_6, hx243_7, hx243_8, hx243_9, hx243_10, hx243_11, hx243_12, hl243_1, hi243_1, hl243_2, hi243_2, hl243_3, hi243_3, hl243_4, hi243_4, hl243_5, hi243_5, hl243_6, hi243_6, hl243_7, hi243_7, hl243_8, hi243_8, hl243_9, hi243_9⟩ := at_T52 HR0_1.out (x32_338) p243 q243
         cases e243
         replace hx243_0 := (HB.out.cell (World.block_lt_of_cell? w _ hx243_0)).trans hx243_0; replace hx243_1 := (HB.out.cell (World.block_lt_of_cell? w _ hx243_1)).trans hx243_1; replace hx243_2 := (HB.out.cell (World.block_lt_of_cell? w _ hx243_2)).trans hx243_2; replace hx243_3 := (HB.out.cell (World.block_lt_of_cell? w _ hx243_3)).trans hx243_3; replace hx243_4 := (HB.out.cell (World.block_lt_of_cell? w _ hx243_4)).trans hx243_4; replace hx243_5 := (HB.out.cell (World.block_lt_of_cell? w _ hx243_5)).trans hx243_5; replace hx243_6 := (HB.out.cell (World.block_lt_of_cell? w _ hx243_6)).trans hx243_6; replace hx243_7 := (HB.out.cell (World.block_lt_of_cell? w _ hx243_7)).trans hx243_7; replace hx243_8 := (HB.out.cell (World.block_lt_of_cell? w _ hx243_8)).trans hx243_8; replace hx243_9 := (HB.out.cell (World.block_lt_of_cell? w _ hx243_9)).trans hx243_9; replace hx243_10 := (HB.out.cell (World.block_lt_of_cell? w _ hx243_10)).trans hx243_10; replace hx243_11 := (HB.out.cell (World.block_lt_of_cell? w _ hx243_11)).trans hx243_11; replace hx243_12 := (HB.out.cell (World.block_lt_of_cell? w _ hx243_12)).trans hx243_12; have HR243_1 := Aside0.mk hi243_1; have HC243_1 := Aside0.mk hl243_1; clear hi243_1 hl243_1; have HR243_2 := Aside0.mk hi243_2; have HC243_2 := Aside0.mk hl243_2; clear hi243_2 hl243_2; have HR243_3 := Aside0.mk hi243_3; have HC243_3 := Aside0.mk hl243_3; clear hi243_3 hl243_3; have HR243_4 := Aside0.mk hi243_4; have HC243_4 := Aside0.mk hl243_4; clear hi243_4 hl243_4; have HR243_5 := Aside0.mk hi243_5; have HC243_5 := Aside0.mk hl243_5; clear hi243_5 hl243_5; have HR243_6 := Aside0.mk hi243_6; have HC243_6 := Aside0.mk hl243_6; clear hi243_6 hl243_6; have HR243_7 := Aside0.mk hi243_7; have HC243_7 := Aside0.mk hl243_7; clear hi243_7 hl243_7; have HR243_8 := Aside0.mk hi243_8; have HC243_8 := Aside0.mk hl243_8; clear hi243_8 hl243_8; have HR243_9 := Aside0.mk hi243_9; have HC243_9 := Aside0.mk hl243_9; clear hi243_9 hl243_9; (have ha343 := fun o_ => blk7 (blk_below BK337.out (alloc_below0 wr o_))); (have ha344 := fun o_ => ((alloc_below0 wr o_).cell (World.block_lt_of_cell? wr _ hx243_0)).trans hx243_0); (have ha345 := fun o_ => ((alloc_below0 wr o_).cell (World.block_lt_of_cell? wr _ hx243_1)).trans hx243_1); (have ha346 := fun o_ => ((alloc_below0 wr o_).cell (World.block_lt_of_cell? wr _ hx243_2)).trans hx243_2); (have ha347 := fun o_ => ((alloc_below0 wr o_).cell (World.block_lt_of_cell? wr _ hx243_3)).trans hx243_3); (have ha348 := fun o_ => ((alloc_below0 wr o_).cell (World.block_lt_of_cell? wr _ hx243_4)).trans hx243_4); (have ha349 := fun o_ => ((alloc_below0 wr o_).cell (World.block_lt_of_cell? wr _ hx243_5)).trans hx243_5); (have ha350 := fun o_ => ((alloc_below0 wr o_).cell (World.block_lt_of_cell? wr _ hx243_6)).trans hx243_6); (have ha351 := fun o_ => ((alloc_below0 wr o_).cell (World.block_lt_of_cell? wr _ hx243_7)).trans hx243_7); (have ha352 := fun o_ => ((alloc_below0 wr o_).cell (World.block_lt_of_cell? wr _ hx243_8)).trans hx243_8); (have ha353 := fun o_ => ((alloc_below0 wr o_).cell (World.block_lt_of_cell? wr _ hx243_9)).trans hx243_9); (have ha354 := fun o_ => ((alloc_below0 wr o_).cell (World.block_lt_of_cell? wr _ hx243_10)).trans hx243_10); (have ha355 := fun o_ => ((alloc_below0 wr o_).cell (World.block_lt_of_cell? wr _ hx243_11)).trans hx243_11); (have ha356 := fun o_ => ((alloc_below0 wr o_).cell (World.block_lt_of_cell? wr _ hx243_12)).trans hx243_12); have BK342 := Aside0.mk (pe_box0 wr #[.string ((rd_T52 l0_1 x32_338).f0), .slice A243_1 ((rd_T52 l0_1 x32_338).f1).length c243_1, .slice A243_2 ((rd_T52 l0_1 x32_338).f2).length c243_2, .slice A243_3 ((rd_T52 l0_1 x32_338).f3).length c243_3, .slice A243_4 ((rd_T52 l0_1 x32_338).f4).length c243_4, .slice A243_5 ((rd_T52 l0_1 x32_338).f5).length c243_5, .slice A243_6 ((rd_T52 l0_1 x32_338).f6).length c243_6, .slice A243_7 ((rd_T52 l0_1 x32_338).f7).length c243_7, .slice A243_8 ((rd_T52 l0_1 x32_338).f8).length c243_8, .slice A243_9 ((rd_T52 l0_1 x32_338).f9).length c243_9, .int .i64 ((rd_T52 l0_1 x32_338).f10), .int .i64 ((rd_T52 l0_1 x32_338).f11.f0), .int .i64 ((rd_T52 l0_1 x32_338).f11.f1)] 52); replace BK337 := Aside0.mk (blk_below BK337.out (alloc_below0 _ (.cells #[.string ((rd_T52 l0_1 x32_338).f0), .slice A243_1 ((rd_T52 l0_1 x32_338).f1).length c243_1, .slice A243_2 ((rd_T52 l0_1 x32_338).f2).length c243_2, .slice A243_3 ((rd_T52 l0_1 x32_338).f3).length c243_3, .slice A243_4 ((rd_T52 l0_1 x32_338).f4).length c243_4, .slice A243_5 ((rd_T52 l0_1 x32_338).f5).length c243_5, .slice A243_6 ((rd_T52 l0_1 x32_338).f6).length c243_6, .slice A243_7 ((rd_T52 l0_1 x32_338).f7).length c243_7, .slice A243_8 ((rd_T52 l0_1 x32_338).f8).length c243_8, .slice A243_9 ((rd_T52 l0_1 x32_338).f9).length c243_9, .int .i64 ((rd_T52 l0_1 x32_338).f10), .int .i64 ((rd_T52 l0_1 x32_338).f11.f0), .int .i64 ((rd_T52 l0_1 x32_338).f11.f1)] 52))); replace HB := Aside0.mk (below_alloc HB.out (.cells #[.string ((rd_T52 l0_1 x32_338).f0), .slice A243_1 ((rd_T52 l0_1 x32_338).f1).length c243_1, .slice A243_2 ((rd_T52 l0_1 x32_338).f2).length c243_2, .slice A243_3 ((rd_T52 l0_1 x32_338).f3).length c243_3, .slice A243_4 ((rd_T52 l0_1 x32_338).f4).length c243_4, .slice A243_5 ((rd_T52 l0_1 x32_338).f5).length c243_5, .slice A243_6 ((rd_T52 l0_1 x32_338).f6).length c243_6, .slice A243_7 ((rd_T52 l0_1 x32_338).f7).length c243_7, .slice A243_8 ((rd_T52 l0_1 x32_338).f8).length c243_8, .slice A243_9 ((rd_T52 l0_1 x32_338).f9).length c243_9, .int .i64 ((rd_T52 l0_1 x32_338).f10), .int .i64 ((rd_T52 l0_1 x32_338).f11.f0), .int .i64 ((rd_T52 l0_1 x32_338).f11.f1)] 52)); go_wp2; go_roundg k338
         case measure => have := HK338.out; omega
         case rel => exact ⟨(wrap64 (x3_338 + (wrap64 ((wrap64 ((wrap64 ((wrap64 ((wrap64 ((wrap64 ((wrap64 ((wrap64 ((((rd_T52 l0_1 x32_338).f1).length : Int) + (((rd_T52 l0_1 x32_338).f2).length : Int))) + (((rd_T52 l0_1 x32_338).f3).length : Int))) + (((rd_T52 l0_1 x32_338).f4).length : Int))) + (((rd_T52 l0_1 x32_338).f5).length : Int))) + (((rd_T52 l0_1 x32_338).f6).length : Int))) + (((rd_T52 l0_1 x32_338).f7).length : Int))) + (((rd_T52 l0_1 x32_338).f8).length : Int))) + (((rd_T52 l0_1 x32_338).f9).length : Int))))), (wrap64 (x32_338 + 1)), (by first | rfl | (simp; done) | (simp [*]; done)), (by first | rfl | (simp; done) | (simp [*]; done)), H, ⟨by have := HK338.out; omega⟩, BK337, HB⟩
       · replace H := a0n c341 H; exact absurd H.out (by simp)
     · replace H := a0n c340 H; exact absurd H.out (by simp)
   · replace H := a0n c339 H; have c339b0 : decide (x32_338 < ((l0_1.length : Int))) = false := decide_eq_false c339; have Kc339 := Aside0.mk c339; clear c339; go_wp2_with fail; go_loopg [3, 77] k338 (fun kq v3 v77 w' => ∃ (x3_357 : Int) (x77_357 : Int), v3 = .int .i64 x3_357 ∧ v77 = .int .i64 x77_357 ∧ Aside0 (book_Module_Size.l1 kq x3_357 l0_2 (l0_2.length : Int) x77_357 a0_0 l0_1 l0_2 a0_3 l0_4 l0_5 l0_6 = some r) ∧ Aside0 (kq ≤ k338) ∧ Aside0 (w'.heap[w.heap.size]? = some (.cells #[.string a0_0, .slice A0_1 l0_1.length c0_1, .slice A0_2 l0_2.length c0_2, .int .i64 a0_3, .slice A0_4 l0_4.length c0_4, .slice A0_5 l0_5.length c0_5, .slice A0_6 l0_6.length c0_6] 30 (0, 0))) ∧ Aside0 (Below w.heap.size w w'))
     case atStart => exact ⟨x3_338, 0, (by first | rfl | (simp; done) | (simp [*]; done)), (by first | rfl | (simp; done) | (simp [*]; done)), H, ⟨Nat.le_refl _⟩, BK337, HB⟩
     case round =>
      clear H HB BK337
      try clear Z337
      obtain ⟨x3_357, x77_357, rfl, rfl, HA, HK357, BK337, HB⟩ := hrel
      cases gk with
      | zero => exact absurd HA.out (by simp [book_Module_Size.l1])
      | succ k357 =>
       have H1 := HA.out; simp only [book_Module_Size.l1] at H1; have H := Aside0.mk H1; clear H1 HA; have Z337 := blk7 BK337.out; by_cases c358 : x77_357 < ((l0_2.length : Int))
       · replace H := a0p c358 H; have c358b0 : decide (x77_357 < ((l0_2.length : Int))) = true := decide_eq_true c358; have Kc358 := Aside0.mk c358; clear c358; by_cases c359 : 0 ≤ x77_357
         · replace H := a0p c359 H; have c359b0 : decide (0 ≤ x77_357) = true := decide_eq_true c359; have Kc359 := Aside0.mk c359; clear c359; by_cases c360 : x77_357 < (l0_2.length : Int)
           · replace H := a0p c360 H; have c360b0 : decide (x77_357 < (l0_2.length : Int)) = true := decide_eq_true c360; have Kc360 := Aside0.mk c360; clear c360; have p245 : 0 ≤ (x77_357 : Int) := Kc359.out; have q245 : x77_357 < (l0_2.length : Int) := Kc360.out; obtain ⟨ad245, A245_2, c245_2, e245, hx245_0, hx245_1, hx245_2, hl245_2, hi245_2⟩ := at_T67 HR0_2.out (x77_357) p245 q245
             cases e245
             replace hx245_0 := (HB.out.cell (World.block_lt_of_cell? w _ hx245_0)).trans hx245_0; replace hx245_1 := (HB.out.cell (World.block_lt_of_cell? w _ hx245_1)).trans hx245_1; replace hx245_2 := (HB.out.cell (World.block_lt_of_cell? w _ hx245_2)).trans hx245_2; have HR245_2 := Aside0.mk hi245_2; have HC245_2 := Aside0.mk hl245_2; clear hi245_2 hl245_2; (have ha362 := fun o_ => blk7 (blk_below BK337.out (alloc_below0 wr o_))); (have ha363 := fun o_ => ((alloc_below0 wr o_).cell (World.block_lt_of_cell? wr _ hx245_0)).trans hx245_0); (have ha364 := fun o_ => ((alloc_below0 wr o_).cell (World.block_lt_of_cell? wr _ hx245_1)).trans hx245_1); (have ha365 := fun o_ => ((alloc_below0 wr o_).cell (World.block_lt_of_cell? wr _ hx245_2)).trans hx245_2); have BK361 := Aside0.mk (pe_box0 wr #[.string ((rd_T67 l0_2 x77_357).f0), .int .i64 ((rd_T67 l0_2 x77_357).f1), .slice A245_2 ((rd_T67 l0_2 x77_357).f2).length c245_2] 67); replace BK337 := Aside0.mk (blk_below BK337.out (alloc_below0 _ (.cells #[.string ((rd_T67 l0_2 x77_357).f0), .int .i64 ((rd_T67 l0_2 x77_357).f1), .slice A245_2 ((rd_T67 l0_2 x77_357).f2).length c245_2] 67))); replace HB := Aside0.mk (below_alloc HB.out (.cells #[.string ((rd_T67 l0_2 x77_357).f0), .int .i64 ((rd_T67 l0_2 x77_357).f1), .slice A245_2 ((rd_T67 l0_2 x77_357).f2).length c245_2] 67)); go_wp2; go_roundg k357
             case measure => have := HK338.out; have := HK357.out; omega
             case rel => exact ⟨(wrap64 (x3_357 + (((rd_T67 l0_2 x77_357).f2).length : Int))), (wrap64 (x77_357 + 1)), (by first | rfl | (simp; done) | (simp [*]; done)), (by first | rfl | (simp; done) | (simp [*]; done)), H, ⟨by have := HK338.out; have := HK357.out; omega⟩, BK337, HB⟩
           · replace H := a0n c360 H; exact absurd H.out (by simp)
         · replace H := a0n c359 H; exact absurd H.out (by simp)
       · replace H := a0n c358 H; have c358b0 : decide (x77_357 < ((l0_2.length : Int))) = false := decide_eq_false c358; have Kc358 := Aside0.mk c358; clear c358; go_wp2_with fail; go_loopg [3, 90] k357 (fun kq v3 v90 w' => ∃ (x3_366 : Int) (x90_366 : Int), v3 = .int .i64 x3_366 ∧ v90 = .int .i64 x90_366 ∧ Aside0 (book_Module_Size.l2 kq x3_366 l0_4 (l0_4.length : Int) x90_366 = some r) ∧ Aside0 (kq ≤ k357) ∧ Aside0 (w'.heap[w.heap.size]? = some (.cells #[.string a0_0, .slice A0_1 l0_1.length c0_1, .slice A0_2 l0_2.length c0_2, .int .i64 a0_3, .slice A0_4 l0_4.length c0_4, .slice A0_5 l0_5.length c0_5, .slice A0_6 l0_6.length c0_6] 30 (0, 0))) ∧ Aside0 (Below w.heap.size w w'))
         case atStart => exact ⟨x3_357, 0, (by first | rfl | (simp; done) | (simp [*]; done)), (by first | rfl | (simp; done) | (simp [*]; done)), H, ⟨Nat.le_refl _⟩, BK337, HB⟩
         case round =>
          clear H HB BK337
          try clear Z337
          obtain ⟨x3_366, x90_366, rfl, rfl, HA, HK366, BK337, HB⟩ := hrel
          cases gk with
          | zero => exact absurd HA.out (by simp [book_Module_Size.l2])
          | succ k366 =>
           have H1 := HA.out; simp only [book_Module_Size.l2] at H1; have H := Aside0.mk H1; clear H1 HA; have Z337 := blk7 BK337.out; by_cases c367 : x90_366 < ((l0_4.length : Int))
           · replace H := a0p c367 H; have c367b0 : decide (x90_366 < ((l0_4.length : Int))) = true := decide_eq_true c367; have Kc367 := Aside0.mk c367; clear c367; by_cases c368 : 0 ≤ x90_366
             · replace H := a0p c368 H; have c368b0 : decide (0 ≤ x90_366) = true := decide_eq_true c368; have Kc368 := Aside0.mk c368; clear c368; by_cases c369 : x90_366 < (l0_4.length : Int)
               · replace H := a0p c369 H; have c369b0 : decide (x90_366 < (l0_4.length : Int)) = true := decide_eq_true c369; have Kc369 := Aside0.mk c369; clear c369; have p247 : 0 ≤ (x90_366 : Int) := Kc368.out; have q247 : x90_366 < (l0_4.length : Int) := Kc369.out; obtain ⟨ad247, A247_2, c247_2, e247, hx247_0, hx247_1, hx247_2, hl247_2, hi247_2⟩ := at_T74 HR0_4.out (x90_366) p247 q247
                 cases e247
                 replace hx247_0 := (HB.out.cell (World.block_lt_of_cell? w _ hx247_0)).trans hx247_0; replace hx247_1 := (HB.out.cell (World.block_lt_of_cell? w _ hx247_1)).trans hx247_1; replace hx247_2 := (HB.out.cell (World.block_lt_of_cell? w _ hx247_2)).trans hx247_2; have HR247_2 := Aside0.mk hi247_2; have HC247_2 := Aside0.mk hl247_2; clear hi247_2 hl247_2; (have ha371 := fun o_ => blk7 (blk_below BK337.out (alloc_below0 wr o_))); (have ha372 := fun o_ => ((alloc_below0 wr o_).cell (World.block_lt_of_cell? wr _ hx247_0)).trans hx247_0); (have ha373 := fun o_ => ((alloc_below0 wr o_).cell (World.block_lt_of_cell? wr _ hx247_1)).trans hx247_1); (have ha374 := fun o_ => ((alloc_below0 wr o_).cell (World.block_lt_of_cell? wr _ hx247_2)).trans hx247_2); have BK370 := Aside0.mk (pe_box0 wr #[.int .i64 ((rd_T74 l0_4 x90_366).f0.f0), .int .i64 ((rd_T74 l0_4 x90_366).f0.f1), .slice A247_2 ((rd_T74 l0_4 x90_366).f1).length c247_2] 74); replace BK337 := Aside0.mk (blk_below BK337.out (alloc_below0 _ (.cells #[.int .i64 ((rd_T74 l0_4 x90_366).f0.f0), .int .i64 ((rd_T74 l0_4 x90_366).f0.f1), .slice A247_2 ((rd_T74 l0_4 x90_366).f1).length c247_2] 74))); replace HB := Aside0.mk (below_alloc HB.out (.cells #[.int .i64 ((rd_T74 l0_4 x90_366).f0.f0), .int .i64 ((rd_T74 l0_4 x90_366).f0.f1), .slice A247_2 ((rd_T74 l0_4 x90_366).f1).length c247_2] 74)); go_wp2; go_roundg k366
                 case measure => have := HK338.out; have := HK357.out; have := HK366.out; omega
                 case rel => exact ⟨(wrap64 (x3_366 + (((rd_T74 l0_4 x90_366).f1).length : Int))), (wrap64 (x90_366 + 1)), (by first | rfl | (simp; done) | (simp [*]; done)), (by first | rfl | (simp; done) | (simp [*]; done)), H, ⟨by have := HK338.out; have := HK357.out; have := HK366.out; omega⟩, BK337, HB⟩
               · replace H := a0n c369 H; exact absurd H.out (by simp)
             · replace H := a0n c368 H; exact absurd H.out (by simp)
           · replace H := a0n c367 H; have c367b0 : decide (x90_366 < ((l0_4.length : Int))) = false := decide_eq_false c367; have Kc367 := Aside0.mk c367; clear c367; obtain rfl := Option.some.inj H.out; go_wp2; go_ret; exact ⟨by first | rfl | (simp; done) | (simp [*]; done), HB.out⟩

/-! ### book_Module_Names_1: function 59 -/
def book_Module_Names_1.f (a0_0 : ByteArray) (l0_1 : List (S62)) (l0_2 : List (S109)) (l0_3 : List (S111)) (l0_4 : List (S113)) (l0_5 : List (S115)) (l0_6 : List (S117)) (l0_7 : List (S119)) (l0_8 : List (S60)) (l0_9 : List (S64)) (a0_10 : Int) (a0_11 : Int) (a0_12 : Int) : Option (ByteArray) := some a0_0
set_option maxHeartbeats 8000000 in
set_option maxRecDepth 100000 in
theorem book_Module_Names_1.calls (a0_0 : ByteArray) (A0_1 : Option Addr) (c0_1 : Nat) (l0_1 : List (S62)) (A0_2 : Option Addr) (c0_2 : Nat) (l0_2 : List (S109)) (A0_3 : Option Addr) (c0_3 : Nat) (l0_3 : List (S111)) (A0_4 : Option Addr) (c0_4 : Nat) (l0_4 : List (S113)) (A0_5 : Option Addr) (c0_5 : Nat) (l0_5 : List (S115)) (A0_6 : Option Addr) (c0_6 : Nat) (l0_6 : List (S117)) (A0_7 : Option Addr) (c0_7 : Nat) (l0_7 : List (S119)) (A0_8 : Option Addr) (c0_8 : Nat) (l0_8 : List (S60)) (A0_9 : Option Addr) (c0_9 : Nat) (l0_9 : List (S64)) (a0_10 : Int) (a0_11 : Int) (a0_12 : Int) (r : ByteArray) (w : World) (hr0_1 : Kd.C k62 w A0_1 l0_1.length l0_1) (hc0_1 : l0_1.length ≤ c0_1) (hr0_2 : Kd.C k109 w A0_2 l0_2.length l0_2) (hc0_2 : l0_2.length ≤ c0_2) (hr0_3 : Kd.C k111 w A0_3 l0_3.length l0_3) (hc0_3 : l0_3.length ≤ c0_3) (hr0_4 : Kd.C k113 w A0_4 l0_4.length l0_4) (hc0_4 : l0_4.length ≤ c0_4) (hr0_5 : Kd.C k115 w A0_5 l0_5.length l0_5) (hc0_5 : l0_5.length ≤ c0_5) (hr0_6 : Kd.C k117 w A0_6 l0_6.length l0_6) (hc0_6 : l0_6.length ≤ c0_6) (hr0_7 : Kd.C k119 w A0_7 l0_7.length l0_7) (hc0_7 : l0_7.length ≤ c0_7) (hr0_8 : Kd.C k60 w A0_8 l0_8.length l0_8) (hc0_8 : l0_8.length ≤ c0_8) (hr0_9 : Kd.C k64 w A0_9 l0_9.length l0_9) (hc0_9 : l0_9.length ≤ c0_9) (h : book_Module_Names_1.f a0_0 l0_1 l0_2 l0_3 l0_4 l0_5 l0_6 l0_7 l0_8 l0_9 a0_10 a0_11 a0_12 = some r) :
  Calls Tryz.prog 59 #[.agg #[.string a0_0, .slice A0_1 l0_1.length c0_1, .slice A0_2 l0_2.length c0_2, .slice A0_3 l0_3.length c0_3, .slice A0_4 l0_4.length c0_4, .slice A0_5 l0_5.length c0_5, .slice A0_6 l0_6.length c0_6, .slice A0_7 l0_7.length c0_7, .slice A0_8 l0_8.length c0_8, .slice A0_9 l0_9.length c0_9, .int .i64 a0_10, .int .i64 a0_11, .int .i64 a0_12]] w fun e w' => e = .returned (.string r) ∧ Below w.heap.size w w' := by
 have hu52 := Tryz.underlying52
 have HR0_1 := Aside0.mk hr0_1
 have HC0_1 := Aside0.mk hc0_1
 clear hr0_1 hc0_1
 have HR0_2 := Aside0.mk hr0_2
 have HC0_2 := Aside0.mk hc0_2
 clear hr0_2 hc0_2
 have HR0_3 := Aside0.mk hr0_3
 have HC0_3 := Aside0.mk hc0_3
 clear hr0_3 hc0_3
 have HR0_4 := Aside0.mk hr0_4
 have HC0_4 := Aside0.mk hc0_4
 clear hr0_4 hc0_4
 have HR0_5 := Aside0.mk hr0_5
 have HC0_5 := Aside0.mk hc0_5
 clear hr0_5 hc0_5
 have HR0_6 := Aside0.mk hr0_6
 have HC0_6 := Aside0.mk hc0_6
 clear hr0_6 hc0_6
 have HR0_7 := Aside0.mk hr0_7
 have HC0_7 := Aside0.mk hc0_7
 clear hr0_7 hc0_7
 have HR0_8 := Aside0.mk hr0_8
 have HC0_8 := Aside0.mk hc0_8
 clear hr0_8 hc0_8
 have HR0_9 := Aside0.mk hr0_9
 have HC0_9 := Aside0.mk hc0_9
 clear hr0_9 hc0_9
 have HB := Aside0.mk (Below.refl w.heap.size w)
 have H : (some a0_0) = some r := h
 clear h
 obtain rfl := Option.some.inj H
 go_enter Tryz.func59, Tryz.ntmps59
 go_wp2_with (first | ((with_reducible refine gate_dst (N := 1) rfl ?_); refine box_event ?hg (N := 1) ?hd (cs := #[.string a0_0, .slice A0_1 l0_1.length c0_1, .slice A0_2 l0_2.length c0_2, .slice A0_3 l0_3.length c0_3, .slice A0_4 l0_4.length c0_4, .slice A0_5 l0_5.length c0_5, .slice A0_6 l0_6.length c0_6, .slice A0_7 l0_7.length c0_7, .slice A0_8 l0_8.length c0_8, .slice A0_9 l0_9.length c0_9, .int .i64 a0_10, .int .i64 a0_11, .int .i64 a0_12]) (t := 52) ?hr ?_; (case hd => rfl); (case hg => rfl); (case hr => first | (go_simp; done) | (go_simp; rfl)); intro gb249 hg w2 hbox hb; have n0_ := Aside0.mk (below_step (by repeat (first | (with_reducible first | exact HB.out | apply below_alloc | apply pw_below_drewN | apply below_drew1) | exact HB.out)) hb); have n1_ := Aside0.mk (hbox); have n2_ := Aside0.mk ((by rw [hg]; exact (below_size (by repeat (first | (with_reducible first | exact HB.out | apply below_alloc | apply pw_below_drewN | apply below_drew1) | exact HB.out))) : w.heap.size ≤ gb249)); have n3_ := Aside0.mk ((by rw [hg]; exact (below_size (by repeat (first | (with_reducible first | exact HB.out | apply below_alloc | apply pw_below_drewN | apply below_drew1) | exact HB.out))) : w.heap.size ≤ gb249)); clear HB; have HB := n0_; have BK249 := n1_; have GW249 := n2_; have GE249 := n3_; clear n0_ n1_ n2_ n3_; clear hb hbox hg; obtain ⟨hcz3_0, hcz3_1, hcz3_2, hcz3_3, hcz3_4, hcz3_5, hcz3_6, hcz3_7, hcz3_8, hcz3_9, hcz3_10, hcz3_11, hcz3_12, hfz3_0, hfz3_1, hfz3_2, hfz3_3, hfz3_4, hfz3_5, hfz3_6, hfz3_7, hfz3_8, hfz3_9, hfz3_10, hfz3_11, hfz3_12⟩ := blk13 BK249.out))
 go_ret
 exact ⟨by first | rfl | (simp [errW_none, errW_some] <;> rfl) | (simp [*, errW_none, errW_some] <;> rfl), by repeat (first | (with_reducible first | exact HB.out | apply below_alloc | apply pw_below_drewN | apply below_drew1 | refine below_set ?_ GE249.out) | exact HB.out)⟩

/-! ### book_Module_Names_2: function 61 -/
def book_Module_Names_2.f (a0_0 : ByteArray) (a0_1 : Int) (l0_2 : List (S69)) : Option (ByteArray) := some a0_0
set_option maxHeartbeats 8000000 in
set_option maxRecDepth 100000 in
theorem book_Module_Names_2.calls (a0_0 : ByteArray) (a0_1 : Int) (A0_2 : Option Addr) (c0_2 : Nat) (l0_2 : List (S69)) (r : ByteArray) (w : World) (hr0_2 : Kd.C k69 w A0_2 l0_2.length l0_2) (hc0_2 : l0_2.length ≤ c0_2) (h : book_Module_Names_2.f a0_0 a0_1 l0_2 = some r) :
  Calls Tryz.prog 61 #[.agg #[.string a0_0, .int .i64 a0_1, .slice A0_2 l0_2.length c0_2]] w fun e w' => e = .returned (.string r) ∧ Below w.heap.size w w' := by
 have hu67 := Tryz.underlying67
 have HR0_2 := Aside0.mk hr0_2
 have HC0_2 := Aside0.mk hc0_2
 clear hr0_2 hc0_2
 have HB := Aside0.mk (Below.refl w.heap.size w)
 have H : (some a0_0) = some r := h
 clear h
 obtain rfl := Option.some.inj H
 go_enter Tryz.func61, Tryz.ntmps61
 go_wp2_with (first | ((with_reducible refine gate_dst (N := 1) rfl ?_); refine box_event ?hg (N := 1) ?hd (cs := #[.string a0_0, .int .i64 a0_1, .slice A0_2 l0_2.length c0_2]) (t := 67) ?hr ?_; (case hd => rfl); (case hg => rfl); (case hr => first | (go_simp; done) | (go_simp; rfl)); intro gb250 hg w2 hbox hb; have n0_ := Aside0.mk (below_step (by repeat (first | (with_reducible first | exact HB.out | apply below_alloc | apply pw_below_drewN | apply below_drew1) | exact HB.out)) hb); have n1_ := Aside0.mk (hbox); have n2_ := Aside0.mk ((by rw [hg]; exact (below_size (by repeat (first | (with_reducible first | exact HB.out | apply below_alloc | apply pw_below_drewN | apply below_drew1) | exact HB.out))) : w.heap.size ≤ gb250)); have n3_ := Aside0.mk ((by rw [hg]; exact (below_size (by repeat (first | (with_reducible first | exact HB.out | apply below_alloc | apply pw_below_drewN | apply below_drew1) | exact HB.out))) : w.heap.size ≤ gb250)); clear HB; have HB := n0_; have BK250 := n1_; have GW250 := n2_; have GE250 := n3_; clear n0_ n1_ n2_ n3_; clear hb hbox hg; obtain ⟨hcz3_0, hcz3_1, hcz3_2, hfz3_0, hfz3_1, hfz3_2⟩ := blk3 BK250.out))
 go_ret
 exact ⟨by first | rfl | (simp [errW_none, errW_some] <;> rfl) | (simp [*, errW_none, errW_some] <;> rfl), by repeat (first | (with_reducible first | exact HB.out | apply below_alloc | apply pw_below_drewN | apply below_drew1 | refine below_set ?_ GE250.out) | exact HB.out)⟩

/-! ### book_Module_Names_3: function 63 -/
def book_Module_Names_3.f (a0_0 : ByteArray) (a0_1 : Int) (a0_2 : Int) : Option (ByteArray) := some a0_0
set_option maxHeartbeats 8000000 in
set_option maxRecDepth 100000 in
theorem book_Module_Names_3.calls (a0_0 : ByteArray) (a0_1 : Int) (a0_2 : Int) (r : ByteArray) (w : World) (h : book_Module_Names_3.f a0_0 a0_1 a0_2 = some r) :
  Calls Tryz.prog 63 #[.agg #[.string a0_0, .int .i64 a0_1, .int .i64 a0_2]] w fun e w' => e = .returned (.string r) ∧ Below w.heap.size w w' := by
 have hu77 := Tryz.underlying77
 have HB := Aside0.mk (Below.refl w.heap.size w)
 have H : (some a0_0) = some r := h
 clear h
 obtain rfl := Option.some.inj H
 go_enter Tryz.func63, Tryz.ntmps63
 go_wp2_with (first | ((with_reducible refine gate_dst (N := 1) rfl ?_); refine box_event ?hg (N := 1) ?hd (cs := #[.string a0_0, .int .i64 a0_1, .int .i64 a0_2]) (t := 77) ?hr ?_; (case hd => rfl); (case hg => rfl); (case hr => first | (go_simp; done) | (go_simp; rfl)); intro gb251 hg w2 hbox hb; have n0_ := Aside0.mk (below_step (by repeat (first | (with_reducible first | exact HB.out | apply below_alloc | apply pw_below_drewN | apply below_drew1) | exact HB.out)) hb); have n1_ := Aside0.mk (hbox); have n2_ := Aside0.mk ((by rw [hg]; exact (below_size (by repeat (first | (with_reducible first | exact HB.out | apply below_alloc | apply pw_below_drewN | apply below_drew1) | exact HB.out))) : w.heap.size ≤ gb251)); have n3_ := Aside0.mk ((by rw [hg]; exact (below_size (by repeat (first | (with_reducible first | exact HB.out | apply below_alloc | apply pw_below_drewN | apply below_drew1) | exact HB.out))) : w.heap.size ≤ gb251)); clear HB; have HB := n0_; have BK251 := n1_; have GW251 := n2_; have GE251 := n3_; clear n0_ n1_ n2_ n3_; clear hb hbox hg; obtain ⟨hcz3_0, hcz3_1, hcz3_2, hfz3_0, hfz3_1, hfz3_2⟩ := blk3 BK251.out))
 go_ret
 exact ⟨by first | rfl | (simp [errW_none, errW_some] <;> rfl) | (simp [*, errW_none, errW_some] <;> rfl), by repeat (first | (with_reducible first | exact HB.out | apply below_alloc | apply pw_below_drewN | apply below_drew1 | refine below_set ?_ GE251.out) | exact HB.out)⟩

/-! ### book_Partition_58__59: function 58 at book_Module_Names_1 -/
def book_Partition_58__59.f (l : List (S52)) : Option (List ByteArray) := if l.length < 8796093022208 then (mapO (fun x => book_Module_Names_1.f (x.f0) (x.f1) (x.f2) (x.f3) (x.f4) (x.f5) (x.f6) (x.f7) (x.f8) (x.f9) (x.f10) (x.f11.f0) (x.f11.f1)) l) else none
set_option maxHeartbeats 4000000 in
set_option maxRecDepth 100000 in
theorem book_Partition_58__59.calls (A0 : Option Addr) (c0 : Nat) (l : List (S52)) (r : List ByteArray) (w : World) (hr0 : Kd.C k52 w A0 l.length l) (hc0 : l.length ≤ c0) (h : book_Partition_58__59.f l = some r) :
  Calls Tryz.prog 58 #[.slice A0 l.length c0, .func (.func 59) #[] #[]] w fun e w' => ∃ v0_ : Value, e = .returned (v0_) ∧ Kd.R Kd.string 9 w' w.heap.size (fun _ => True) v0_ r ∧ Below w.heap.size w w' := by
 unfold book_Partition_58__59.f at h
 obtain ⟨hL, h2⟩ := if_some h
 clear h
 have HL := Aside0.mk hL
 have HR0 := Aside0.mk hr0
 have H0 : Aside0 (∃ m', mapO (fun x => book_Module_Names_1.f (x.f0) (x.f1) (x.f2) (x.f3) (x.f4) (x.f5) (x.f6) (x.f7) (x.f8) (x.f9) (x.f10) (x.f11.f0) (x.f11.f1)) (l.drop 0) = some m' ∧ r = [] ++ m') := ⟨⟨r, by simpa using h2, rfl⟩⟩
 have hL2 : l.length ≤ 140737488351232 := by omega
 clear hr0 h2 hL
 go_enter Tryz.func58, Tryz.ntmps58
 go_wp2
 go_loopw [5, 10] (fun v5 v10 wr => ∃ (j : Nat) (m : List ByteArray), v10 = .int .i64 (j : Int) ∧ j ≤ l.length ∧ Aside0 (m.length = j) ∧ Aside0 (∃ m', mapO (fun x => book_Module_Names_1.f (x.f0) (x.f1) (x.f2) (x.f3) (x.f4) (x.f5) (x.f6) (x.f7) (x.f8) (x.f9) (x.f10) (x.f11.f0) (x.f11.f1)) (l.drop j) = some m' ∧ r = m ++ m') ∧ Aside0 (Kd.R Kd.string 9 wr w.heap.size (fun _ => True) v5 m) ∧ Aside0 (Below w.heap.size w wr)) (fun _ v10 _ => l.length - (intOf v10).toNat)
 case atStart => exact ⟨0, [], rfl, Nat.zero_le _, ⟨rfl⟩, H0, ⟨Kd.R_nil _ _ _ _ _⟩, ⟨Below.refl _ _⟩⟩
 case round =>
  clear H0
  obtain ⟨j, m, rfl, hj, HM, HA, HO, HB⟩ := hrel
  by_cases hlt : j < l.length
  ·
   have p7 : (0 : Int) ≤ (j : Int) := by omega
   have q7 : (j : Int) < (l.length : Int) := by omega
   obtain ⟨m1, ha1, ha2⟩ := HA.out
   obtain ⟨b, m2, hb1, hb2, hb3⟩ := mapO_cons hlt ha1
   have HB1 := Aside0.mk hb1
   have HA2 : Aside0 (∃ m', mapO (fun x => book_Module_Names_1.f (x.f0) (x.f1) (x.f2) (x.f3) (x.f4) (x.f5) (x.f6) (x.f7) (x.f8) (x.f9) (x.f10) (x.f11.f0) (x.f11.f1)) (l.drop (j + 1)) = some m' ∧ r = (m ++ [b]) ++ m') := ⟨⟨m2, hb2, by rw [ha2, hb3]; simp⟩⟩
   clear hb1 hb2 hb3 ha1 ha2 HA
   obtain ⟨ad7, A7_1, c7_1, A7_2, c7_2, A7_3, c7_3, A7_4, c7_4, A7_5, c7_5, A7_6, c7_6, A7_7, c7_7, A7_8, c7_8, A7_9, c7_9, e7, hx7_0, hx7_1, hx7_2, hx7_3, hx7_4, hx7_5, hx7_6, hx7_7, hx7_8, hx7_9, hx7_10, hx7_11, hx7_12, hl7_1, hi7_1, hl7_2, hi7_2, hl7_3, hi7_3, hl7_4, hi7_4, hl7_5, hi7_5, hl7_6, hi7_6, hl7_7, hi7_7, hl7_8, hi7_8, hl7_9, hi7_9⟩ := at_T52 HR0.out (j : Int) p7 q7
   cases e7
   replace hx7_0 := (HB.out.cell (World.block_lt_of_cell? w _ hx7_0)).trans hx7_0
   replace hx7_1 := (HB.out.cell (World.block_lt_of_cell? w _ hx7_1)).trans hx7_1
   replace hx7_2 := (HB.out.cell (World.block_lt_of_cell? w _ hx7_2)).trans hx7_2
   replace hx7_3 := (HB.out.cell (World.block_lt_of_cell? w _ hx7_3)).trans hx7_3
   replace hx7_4 := (HB.out.cell (World.block_lt_of_cell? w _ hx7_4)).trans hx7_4
   replace hx7_5 := (HB.out.cell (World.block_lt_of_cell? w _ hx7_5)).trans hx7_5
   replace hx7_6 := (HB.out.cell (World.block_lt_of_cell? w _ hx7_6)).trans hx7_6
   replace hx7_7 := (HB.out.cell (World.block_lt_of_cell? w _ hx7_7)).trans hx7_7
   replace hx7_8 := (HB.out.cell (World.block_lt_of_cell? w _ hx7_8)).trans hx7_8
   replace hx7_9 := (HB.out.cell (World.block_lt_of_cell? w _ hx7_9)).trans hx7_9
   replace hx7_10 := (HB.out.cell (World.block_lt_of_cell? w _ hx7_10)).trans hx7_10
   replace hx7_11 := (HB.out.cell (World.block_lt_of_cell? w _ hx7_11)).trans hx7_11
   replace hx7_12 := (HB.out.cell (World.block_lt_of_cell? w _ hx7_12)).trans hx7_12
   have HR7_1 := Aside0.mk hi7_1
   have HC7_1 := Aside0.mk hl7_1
   clear hi7_1 hl7_1
   have HR7_2 := Aside0.mk hi7_2
   have HC7_2 := Aside0.mk hl7_2
   clear hi7_2 hl7_2
   have HR7_3 := Aside0.mk hi7_3
   have HC7_3 := Aside0.mk hl7_3
   clear hi7_3 hl7_3
   have HR7_4 := Aside0.mk hi7_4
   have HC7_4 := Aside0.mk hl7_4
   clear hi7_4 hl7_4
   have HR7_5 := Aside0.mk hi7_5
   have HC7_5 := Aside0.mk hl7_5
   clear hi7_5 hl7_5
   have HR7_6 := Aside0.mk hi7_6
   have HC7_6 := Aside0.mk hl7_6
   clear hi7_6 hl7_6
   have HR7_7 := Aside0.mk hi7_7
   have HC7_7 := Aside0.mk hl7_7
   clear hi7_7 hl7_7
   have HR7_8 := Aside0.mk hi7_8
   have HC7_8 := Aside0.mk hl7_8
   clear hi7_8 hl7_8
   have HR7_9 := Aside0.mk hi7_9
   have HC7_9 := Aside0.mk hl7_9
   clear hi7_9 hl7_9
   have EX : Aside0 (rd_T52 l (j : Int) = l[j]) := ⟨by show l.getD _ _ = _; rw [Int.toNat_natCast, List.getD_eq_getElem?_getD, List.getElem?_eq_getElem hlt, Option.getD_some]⟩
   clear p7 q7
   generalize rd_T52 l (j : Int) = x at *
   have HC : Aside0 (book_Module_Names_1.f (x.f0) (x.f1) (x.f2) (x.f3) (x.f4) (x.f5) (x.f6) (x.f7) (x.f8) (x.f9) (x.f10) (x.f11.f0) (x.f11.f1) = some b) := ⟨by rw [EX.out]; exact HB1.out⟩
   clear HB1 EX
   simp only [Int.toNat_natCast] at *
   have HB9 := Aside0.mk (below_alloc HB.out (.cells #[.string (x.f0), .slice A7_1 (x.f1).length c7_1, .slice A7_2 (x.f2).length c7_2, .slice A7_3 (x.f3).length c7_3, .slice A7_4 (x.f4).length c7_4, .slice A7_5 (x.f5).length c7_5, .slice A7_6 (x.f6).length c7_6, .slice A7_7 (x.f7).length c7_7, .slice A7_8 (x.f8).length c7_8, .slice A7_9 (x.f9).length c7_9, .int .i64 (x.f10), .int .i64 (x.f11.f0), .int .i64 (x.f11.f1)] 52))
   have HO9 := Aside0.mk (Kd.R_alloc HO.out (.cells #[.string (x.f0), .slice A7_1 (x.f1).length c7_1, .slice A7_2 (x.f2).length c7_2, .slice A7_3 (x.f3).length c7_3, .slice A7_4 (x.f4).length c7_4, .slice A7_5 (x.f5).length c7_5, .slice A7_6 (x.f6).length c7_6, .slice A7_7 (x.f7).length c7_7, .slice A7_8 (x.f8).length c7_8, .slice A7_9 (x.f9).length c7_9, .int .i64 (x.f10), .int .i64 (x.f11.f0), .int .i64 (x.f11.f1)] 52))
   go_wp2_with fail
   refine (book_Module_Names_1.calls (x.f0) _ _ (x.f1) _ _ (x.f2) _ _ (x.f3) _ _ (x.f4) _ _ (x.f5) _ _ (x.f6) _ _ (x.f7) _ _ (x.f8) _ _ (x.f9) (x.f10) (x.f11.f0) (x.f11.f1) b _ (Kd.C_below HR7_1.out HB9.out) HC7_1.out (Kd.C_below HR7_2.out HB9.out) HC7_2.out (Kd.C_below HR7_3.out HB9.out) HC7_3.out (Kd.C_below HR7_4.out HB9.out) HC7_4.out (Kd.C_below HR7_5.out HB9.out) HC7_5.out (Kd.C_below HR7_6.out HB9.out) HC7_6.out (Kd.C_below HR7_7.out HB9.out) HC7_7.out (Kd.C_below HR7_8.out HB9.out) HC7_8.out (Kd.C_below HR7_9.out HB9.out) HC7_9.out HC.out).mono ?_
   rintro e w9 ⟨rfl, hb⟩
   have HB10 := Aside0.mk (below_step HB9.out hb)
   have HO10 := Aside0.mk (Kd.R_below HO9.out hb)
   clear hb HB HB9 HO HO9
   go_wp2_with (at_builtin; refine Kd.R_append Kd.string (w0 := w) w.heap.size rfl (.tmp 14) (.tmp 18) 36 9 (.string ⟨#[]⟩) 16 rfl Tryz.underlying36 info9 rfl (by decide) (by omega) _ m b [.string b] (fun _ => True) (fun _ => False) rfl rfl ?aP (fun _ hk => hk.elim) ?aF ?aO ?aB ?aS ?aL ?_; (case aP => exact rfl); (case aB => exact HB10.out); (case aF => exact (fun _ _ => trivial)); (case aO => exact HO10.out); (case aS => exact below_size HB10.out); (case aL => have := HL.out; have := HM.out; omega); intro v11 w11 ho11 hb11 hg hat; have HO11 := Aside0.mk ho11; have HB11 := Aside0.mk hb11; clear ho11 hb11 hg hat)
   go_roundw
   case rel => exact ⟨j + 1, m ++ [b], by go_num, by omega, ⟨by have := HM.out; simp; omega⟩, HA2, HO11, HB11⟩
   case measure => simp [intOf]; omega
  ·
   obtain rfl : j = l.length := by omega
   have hr : m = r := by
    obtain ⟨m1, ha1, ha2⟩ := HA.out
    rw [List.drop_length] at ha1
    simp [mapO] at ha1
    rw [ha2, ha1]; simp
   subst hr
   go_wp2
   go_ret
   exact ⟨_, rfl, HO.out, HB.out⟩

/-! ### book_Schedule_60__61: function 60 at book_Module_Names_2 -/
def book_Schedule_60__61.f (l : List (S67)) : Option (List ByteArray) := if l.length < 8796093022208 then (mapO (fun x => book_Module_Names_2.f (x.f0) (x.f1) (x.f2)) l) else none
set_option maxHeartbeats 4000000 in
set_option maxRecDepth 100000 in
theorem book_Schedule_60__61.calls (A0 : Option Addr) (c0 : Nat) (l : List (S67)) (r : List ByteArray) (w : World) (hr0 : Kd.C k67 w A0 l.length l) (hc0 : l.length ≤ c0) (h : book_Schedule_60__61.f l = some r) :
  Calls Tryz.prog 60 #[.slice A0 l.length c0, .func (.func 61) #[] #[]] w fun e w' => ∃ v0_ : Value, e = .returned (v0_) ∧ Kd.R Kd.string 9 w' w.heap.size (fun _ => True) v0_ r ∧ Below w.heap.size w w' := by
 unfold book_Schedule_60__61.f at h
 obtain ⟨hL, h2⟩ := if_some h
 clear h
 have HL := Aside0.mk hL
 have HR0 := Aside0.mk hr0
 have H0 : Aside0 (∃ m', mapO (fun x => book_Module_Names_2.f (x.f0) (x.f1) (x.f2)) (l.drop 0) = some m' ∧ r = [] ++ m') := ⟨⟨r, by simpa using h2, rfl⟩⟩
 have hL2 : l.length ≤ 140737488351232 := by omega
 clear hr0 h2 hL
 go_enter Tryz.func60, Tryz.ntmps60
 go_wp2
 go_loopw [5, 10] (fun v5 v10 wr => ∃ (j : Nat) (m : List ByteArray), v10 = .int .i64 (j : Int) ∧ j ≤ l.length ∧ Aside0 (m.length = j) ∧ Aside0 (∃ m', mapO (fun x => book_Module_Names_2.f (x.f0) (x.f1) (x.f2)) (l.drop j) = some m' ∧ r = m ++ m') ∧ Aside0 (Kd.R Kd.string 9 wr w.heap.size (fun _ => True) v5 m) ∧ Aside0 (Below w.heap.size w wr)) (fun _ v10 _ => l.length - (intOf v10).toNat)
 case atStart => exact ⟨0, [], rfl, Nat.zero_le _, ⟨rfl⟩, H0, ⟨Kd.R_nil _ _ _ _ _⟩, ⟨Below.refl _ _⟩⟩
 case round =>
  clear H0
  obtain ⟨j, m, rfl, hj, HM, HA, HO, HB⟩ := hrel
  by_cases hlt : j < l.length
  ·
   have p7 : (0 : Int) ≤ (j : Int) := by omega
   have q7 : (j : Int) < (l.length : Int) := by omega
   obtain ⟨m1, ha1, ha2⟩ := HA.out
   obtain ⟨b, m2, hb1, hb2, hb3⟩ := mapO_cons hlt ha1
   have HB1 := Aside0.mk hb1
   have HA2 : Aside0 (∃ m', mapO (fun x => book_Module_Names_2.f (x.f0) (x.f1) (x.f2)) (l.drop (j + 1)) = some m' ∧ r = (m ++ [b]) ++ m') := ⟨⟨m2, hb2, by rw [ha2, hb3]; simp⟩⟩
   clear hb1 hb2 hb3 ha1 ha2 HA
   obtain ⟨ad7, A7_2, c7_2, e7, hx7_0, hx7_1, hx7_2, hl7_2, hi7_2⟩ := at_T67 HR0.out (j : Int) p7 q7
   cases e7
   replace hx7_0 := (HB.out.cell (World.block_lt_of_cell? w _ hx7_0)).trans hx7_0
   replace hx7_1 := (HB.out.cell (World.block_lt_of_cell? w _ hx7_1)).trans hx7_1
   replace hx7_2 := (HB.out.cell (World.block_lt_of_cell? w _ hx7_2)).trans hx7_2
   have HR7_2 := Aside0.mk hi7_2
   have HC7_2 := Aside0.mk hl7_2
   clear hi7_2 hl7_2
   have EX : Aside0 (rd_T67 l (j : Int) = l[j]) := ⟨by show l.getD _ _ = _; rw [Int.toNat_natCast, List.getD_eq_getElem?_getD, List.getElem?_eq_getElem hlt, Option.getD_some]⟩
   clear p7 q7
   generalize rd_T67 l (j : Int) = x at *
   have HC : Aside0 (book_Module_Names_2.f (x.f0) (x.f1) (x.f2) = some b) := ⟨by rw [EX.out]; exact HB1.out⟩
   clear HB1 EX
   simp only [Int.toNat_natCast] at *
   have HB9 := Aside0.mk (below_alloc HB.out (.cells #[.string (x.f0), .int .i64 (x.f1), .slice A7_2 (x.f2).length c7_2] 67))
   have HO9 := Aside0.mk (Kd.R_alloc HO.out (.cells #[.string (x.f0), .int .i64 (x.f1), .slice A7_2 (x.f2).length c7_2] 67))
   go_wp2_with fail
   refine (book_Module_Names_2.calls (x.f0) (x.f1) _ _ (x.f2) b _ (Kd.C_below HR7_2.out HB9.out) HC7_2.out HC.out).mono ?_
   rintro e w9 ⟨rfl, hb⟩
   have HB10 := Aside0.mk (below_step HB9.out hb)
   have HO10 := Aside0.mk (Kd.R_below HO9.out hb)
   clear hb HB HB9 HO HO9
   go_wp2_with (at_builtin; refine Kd.R_append Kd.string (w0 := w) w.heap.size rfl (.tmp 14) (.tmp 18) 36 9 (.string ⟨#[]⟩) 16 rfl Tryz.underlying36 info9 rfl (by decide) (by omega) _ m b [.string b] (fun _ => True) (fun _ => False) rfl rfl ?aP (fun _ hk => hk.elim) ?aF ?aO ?aB ?aS ?aL ?_; (case aP => exact rfl); (case aB => exact HB10.out); (case aF => exact (fun _ _ => trivial)); (case aO => exact HO10.out); (case aS => exact below_size HB10.out); (case aL => have := HL.out; have := HM.out; omega); intro v11 w11 ho11 hb11 hg hat; have HO11 := Aside0.mk ho11; have HB11 := Aside0.mk hb11; clear ho11 hb11 hg hat)
   go_roundw
   case rel => exact ⟨j + 1, m ++ [b], by go_num, by omega, ⟨by have := HM.out; simp; omega⟩, HA2, HO11, HB11⟩
   case measure => simp [intOf]; omega
  ·
   obtain rfl : j = l.length := by omega
   have hr : m = r := by
    obtain ⟨m1, ha1, ha2⟩ := HA.out
    rw [List.drop_length] at ha1
    simp [mapO] at ha1
    rw [ha2, ha1]; simp
   subst hr
   go_wp2
   go_ret
   exact ⟨_, rfl, HO.out, HB.out⟩

/-! ### book_Link_62__63: function 62 at book_Module_Names_3 -/
def book_Link_62__63.f (l : List (S77)) : Option (List ByteArray) := if l.length < 8796093022208 then (mapO (fun x => book_Module_Names_3.f (x.f0) (x.f1) (x.f2)) l) else none
set_option maxHeartbeats 4000000 in
set_option maxRecDepth 100000 in
theorem book_Link_62__63.calls (A0 : Option Addr) (c0 : Nat) (l : List (S77)) (r : List ByteArray) (w : World) (hr0 : Kd.C k77 w A0 l.length l) (hc0 : l.length ≤ c0) (h : book_Link_62__63.f l = some r) :
  Calls Tryz.prog 62 #[.slice A0 l.length c0, .func (.func 63) #[] #[]] w fun e w' => ∃ v0_ : Value, e = .returned (v0_) ∧ Kd.R Kd.string 9 w' w.heap.size (fun _ => True) v0_ r ∧ Below w.heap.size w w' := by
 unfold book_Link_62__63.f at h
 obtain ⟨hL, h2⟩ := if_some h
 clear h
 have HL := Aside0.mk hL
 have HR0 := Aside0.mk hr0
 have H0 : Aside0 (∃ m', mapO (fun x => book_Module_Names_3.f (x.f0) (x.f1) (x.f2)) (l.drop 0) = some m' ∧ r = [] ++ m') := ⟨⟨r, by simpa using h2, rfl⟩⟩
 have hL2 : l.length ≤ 140737488351232 := by omega
 clear hr0 h2 hL
 go_enter Tryz.func62, Tryz.ntmps62
 go_wp2
 go_loopw [5, 10] (fun v5 v10 wr => ∃ (j : Nat) (m : List ByteArray), v10 = .int .i64 (j : Int) ∧ j ≤ l.length ∧ Aside0 (m.length = j) ∧ Aside0 (∃ m', mapO (fun x => book_Module_Names_3.f (x.f0) (x.f1) (x.f2)) (l.drop j) = some m' ∧ r = m ++ m') ∧ Aside0 (Kd.R Kd.string 9 wr w.heap.size (fun _ => True) v5 m) ∧ Aside0 (Below w.heap.size w wr)) (fun _ v10 _ => l.length - (intOf v10).toNat)
 case atStart => exact ⟨0, [], rfl, Nat.zero_le _, ⟨rfl⟩, H0, ⟨Kd.R_nil _ _ _ _ _⟩, ⟨Below.refl _ _⟩⟩
 case round =>
  clear H0
  obtain ⟨j, m, rfl, hj, HM, HA, HO, HB⟩ := hrel
  by_cases hlt : j < l.length
  ·
   have p7 : (0 : Int) ≤ (j : Int) := by omega
   have q7 : (j : Int) < (l.length : Int) := by omega
   obtain ⟨m1, ha1, ha2⟩ := HA.out
   obtain ⟨b, m2, hb1, hb2, hb3⟩ := mapO_cons hlt ha1
   have HB1 := Aside0.mk hb1
   have HA2 : Aside0 (∃ m', mapO (fun x => book_Module_Names_3.f (x.f0) (x.f1) (x.f2)) (l.drop (j + 1)) = some m' ∧ r = (m ++ [b]) ++ m') := ⟨⟨m2, hb2, by rw [ha2, hb3]; simp⟩⟩
   clear hb1 hb2 hb3 ha1 ha2 HA
   obtain ⟨ad7, e7, hx7_0, hx7_1, hx7_2⟩ := at_T77 HR0.out (j : Int) p7 q7
   cases e7
   replace hx7_0 := (HB.out.cell (World.block_lt_of_cell? w _ hx7_0)).trans hx7_0
   replace hx7_1 := (HB.out.cell (World.block_lt_of_cell? w _ hx7_1)).trans hx7_1
   replace hx7_2 := (HB.out.cell (World.block_lt_of_cell? w _ hx7_2)).trans hx7_2
   have EX : Aside0 (rd_T77 l (j : Int) = l[j]) := ⟨by show l.getD _ _ = _; rw [Int.toNat_natCast, List.getD_eq_getElem?_getD, List.getElem?_eq_getElem hlt, Option.getD_some]⟩
   clear p7 q7
   generalize rd_T77 l (j : Int) = x at *
   have HC : Aside0 (book_Module_Names_3.f (x.f0) (x.f1) (x.f2) = some b) := ⟨by rw [EX.out]; exact HB1.out⟩
   clear HB1 EX
   simp only [Int.toNat_natCast] at *
   have HB9 := Aside0.mk (below_alloc HB.out (.cells #[.string (x.f0), .int .i64 (x.f1), .int .i64 (x.f2)] 77))
   have HO9 := Aside0.mk (Kd.R_alloc HO.out (.cells #[.string (x.f0), .int .i64 (x.f1), .int .i64 (x.f2)] 77))
   go_wp2_with fail
   refine (book_Module_Names_3.calls (x.f0) (x.f1) (x.f2) b _ HC.out).mono ?_
   rintro e w9 ⟨rfl, hb⟩
   have HB10 := Aside0.mk (below_step HB9.out hb)
   have HO10 := Aside0.mk (Kd.R_below HO9.out hb)
   clear hb HB HB9 HO HO9
   go_wp2_with (at_builtin; refine Kd.R_append Kd.string (w0 := w) w.heap.size rfl (.tmp 14) (.tmp 18) 36 9 (.string ⟨#[]⟩) 16 rfl Tryz.underlying36 info9 rfl (by decide) (by omega) _ m b [.string b] (fun _ => True) (fun _ => False) rfl rfl ?aP (fun _ hk => hk.elim) ?aF ?aO ?aB ?aS ?aL ?_; (case aP => exact rfl); (case aB => exact HB10.out); (case aF => exact (fun _ _ => trivial)); (case aO => exact HO10.out); (case aS => exact below_size HB10.out); (case aL => have := HL.out; have := HM.out; omega); intro v11 w11 ho11 hb11 hg hat; have HO11 := Aside0.mk ho11; have HB11 := Aside0.mk hb11; clear ho11 hb11 hg hat)
   go_roundw
   case rel => exact ⟨j + 1, m ++ [b], by go_num, by omega, ⟨by have := HM.out; simp; omega⟩, HA2, HO11, HB11⟩
   case measure => simp [intOf]; omega
  ·
   obtain rfl : j = l.length := by omega
   have hr : m = r := by
    obtain ⟨m1, ha1, ha2⟩ := HA.out
    rw [List.drop_length] at ha1
    simp [mapO] at ha1
    rw [ha2, ha1]; simp
   subst hr
   go_wp2
   go_ret
   exact ⟨_, rfl, HO.out, HB.out⟩

/-! ### book_Module_Names: function 20 -/
def book_Module_Names.f (a0_0 : ByteArray) (l0_1 : List (S52)) (l0_2 : List (S67)) (a0_3 : Int) (l0_4 : List (S74)) (l0_5 : List (S77)) (l0_6 : List (S64)) (a1 : ByteArray) : Option (List ByteArray) := if a1.toList = ([112, 97, 114, 116, 105, 116, 105, 111, 110] : List UInt8) then ((book_Partition_58__59.f l0_1).bind fun t253 => (some t253)) else (if a1.toList = ([115, 99, 104, 101, 100, 117, 108, 101] : List UInt8) then ((book_Schedule_60__61.f l0_2).bind fun t256 => (some t256)) else (if a1.toList = ([108, 105, 110, 107] : List UInt8) then ((book_Link_62__63.f l0_5).bind fun t259 => (some t259)) else (some ([] : List ByteArray))))
set_option maxHeartbeats 8000000 in
set_option maxRecDepth 100000 in
theorem book_Module_Names.calls (a0_0 : ByteArray) (A0_1 : Option Addr) (c0_1 : Nat) (l0_1 : List (S52)) (A0_2 : Option Addr) (c0_2 : Nat) (l0_2 : List (S67)) (a0_3 : Int) (A0_4 : Option Addr) (c0_4 : Nat) (l0_4 : List (S74)) (A0_5 : Option Addr) (c0_5 : Nat) (l0_5 : List (S77)) (A0_6 : Option Addr) (c0_6 : Nat) (l0_6 : List (S64)) (a1 : ByteArray) (r : List ByteArray) (w : World) (hr0_1 : Kd.C k52 w A0_1 l0_1.length l0_1) (hc0_1 : l0_1.length ≤ c0_1) (hr0_2 : Kd.C k67 w A0_2 l0_2.length l0_2) (hc0_2 : l0_2.length ≤ c0_2) (hr0_4 : Kd.C k74 w A0_4 l0_4.length l0_4) (hc0_4 : l0_4.length ≤ c0_4) (hr0_5 : Kd.C k77 w A0_5 l0_5.length l0_5) (hc0_5 : l0_5.length ≤ c0_5) (hr0_6 : Kd.C k64 w A0_6 l0_6.length l0_6) (hc0_6 : l0_6.length ≤ c0_6) (h : book_Module_Names.f a0_0 l0_1 l0_2 a0_3 l0_4 l0_5 l0_6 a1 = some r) :
    Calls Tryz.prog 20 #[.agg #[.string a0_0, .slice A0_1 l0_1.length c0_1, .slice A0_2 l0_2.length c0_2, .int .i64 a0_3, .slice A0_4 l0_4.length c0_4, .slice A0_5 l0_5.length c0_5, .slice A0_6 l0_6.length c0_6], .string a1] w fun e w' => ∃ v0_ : Value, e = .returned (v0_) ∧ Kd.R Kd.string 9 w' w.heap.size (fun _ => True) v0_ r ∧ Below w.heap.size w w' := by
 have HR0_1 := Aside0.mk hr0_1; have HC0_1 := Aside0.mk hc0_1; clear hr0_1 hc0_1; have HR0_2 := Aside0.mk hr0_2; have HC0_2 := Aside0.mk hc0_2; clear hr0_2 hc0_2; have HR0_4 := Aside0.mk hr0_4; have HC0_4 := Aside0.mk hc0_4; clear hr0_4 hc0_4; have HR0_5 := Aside0.mk hr0_5; have HC0_5 := Aside0.mk hc0_5; clear hr0_5 hc0_5; have HR0_6 := Aside0.mk hr0_6; have HC0_6 := Aside0.mk hc0_6; clear hr0_6 hc0_6; unfold book_Module_Names.f at h; have H := Aside0.mk h; clear h; have HB := Aside0.mk (Below.refl w.heap.size w); have hu30 := Tryz.underlying30; go_enter Tryz.func20, Tryz.ntmps20; by_cases c376 : a1.toList = ([112, 97, 114, 116, 105, 116, 105, 111, 110] : List UInt8)
 · replace H := a0p c376 H; have c376b0 : (a1.toList == ([112, 97, 114, 116, 105, 116, 105, 111, 110] : List UInt8)) = true := beq_iff_eq.mpr c376; have c376b1 : (a1.toList != ([112, 97, 114, 116, 105, 116, 105, 111, 110] : List UInt8)) = false := bne_eq_false_iff_eq.mpr c376; have Kc376 := Aside0.mk c376; clear c376; have BK375 := Aside0.mk (pe_box0 w #[.string a0_0, .slice A0_1 l0_1.length c0_1, .slice A0_2 l0_2.length c0_2, .int .i64 a0_3, .slice A0_4 l0_4.length c0_4, .slice A0_5 l0_5.length c0_5, .slice A0_6 l0_6.length c0_6] 30); replace HB := Aside0.mk (below_alloc HB.out (.cells #[.string a0_0, .slice A0_1 l0_1.length c0_1, .slice A0_2 l0_2.length c0_2, .int .i64 a0_3, .slice A0_4 l0_4.length c0_4, .slice A0_5 l0_5.length c0_5, .slice A0_6 l0_6.length c0_6] 30)); obtain ⟨t253, q377, H1⟩ := a0b H; clear H; have H := H1; clear H1; go_wp2_with fail; (with_reducible refine (book_Partition_58__59.calls _ _ l0_1 t253 _ (Kd.C_below HR0_1.out HB.out) HC0_1.out q377.out).mono ?_); clear q377; (rintro e w378 ⟨v_378, rfl, ho, hb⟩); have HO255 := Aside0.mk (Kd.R_lower ho (HB.out : Below _ _ _).size); obtain ⟨A_HO255, c_HO255, e_HO255⟩ := Kd.R_slice HO255.out; subst e_HO255; clear ho; replace HB := Aside0.mk (below_step HB.out hb); replace BK375 := Aside0.mk (blk_below BK375.out hb); clear hb; have Z375 := blk7 BK375.out; obtain rfl := Option.some.inj H.out; go_wp2; go_ret; exact ⟨_, rfl, HO255.out, HB.out⟩
 · replace H := a0n c376 H; have c376b0 : (a1.toList == ([112, 97, 114, 116, 105, 116, 105, 111, 110] : List UInt8)) = false := beq_eq_false_iff_ne.mpr c376; have c376b1 : (a1.toList != ([112, 97, 114, 116, 105, 116, 105, 111, 110] : List UInt8)) = true := bne_iff_ne.mpr c376; have Kc376 := Aside0.mk c376; clear c376; by_cases c379 : a1.toList = ([115, 99, 104, 101, 100, 117, 108, 101] : List UInt8)
   · replace H := a0p c379 H; have c379b0 : (a1.toList == ([115, 99, 104, 101, 100, 117, 108, 101] : List UInt8)) = true := beq_iff_eq.mpr c379; have c379b1 : (a1.toList != ([115, 99, 104, 101, 100, 117, 108, 101] : List UInt8)) = false := bne_eq_false_iff_eq.mpr c379; have Kc379 := Aside0.mk c379; clear c379; have BK375 := Aside0.mk (pe_box0 w #[.string a0_0, .slice A0_1 l0_1.length c0_1, .slice A0_2 l0_2.length c0_2, .int .i64 a0_3, .slice A0_4 l0_4.length c0_4, .slice A0_5 l0_5.length c0_5, .slice A0_6 l0_6.length c0_6] 30); replace HB := Aside0.mk (below_alloc HB.out (.cells #[.string a0_0, .slice A0_1 l0_1.length c0_1, .slice A0_2 l0_2.length c0_2, .int .i64 a0_3, .slice A0_4 l0_4.length c0_4, .slice A0_5 l0_5.length c0_5, .slice A0_6 l0_6.length c0_6] 30)); obtain ⟨t256, q380, H1⟩ := a0b H; clear H; have H := H1; clear H1; go_wp2_with fail; (with_reducible refine (book_Schedule_60__61.calls _ _ l0_2 t256 _ (Kd.C_below HR0_2.out HB.out) HC0_2.out q380.out).mono ?_); clear q380; (rintro e w381 ⟨v_381, rfl, ho, hb⟩); have HO258 := Aside0.mk (Kd.R_lower ho (HB.out : Below _ _ _).size); obtain ⟨A_HO258, c_HO258, e_HO258⟩ := Kd.R_slice HO258.out; subst e_HO258; clear ho; replace HB := Aside0.mk (below_step HB.out hb); replace BK375 := Aside0.mk (blk_below BK375.out hb); clear hb; have Z375 := blk7 BK375.out; obtain rfl := Option.some.inj H.out; go_wp2; go_ret; exact ⟨_, rfl, HO258.out, HB.out⟩
   · replace H := a0n c379 H; have c379b0 : (a1.toList == ([115, 99, 104, 101, 100, 117, 108, 101] : List UInt8)) = false := beq_eq_false_iff_ne.mpr c379; have c379b1 : (a1.toList != ([115, 99, 104, 101, 100, 117, 108, 101] : List UInt8)) = true := bne_iff_ne.mpr c379; have Kc379 := Aside0.mk c379; clear c379; by_cases c382 : a1.toList = ([108, 105, 110, 107] : List UInt8)
     · replace H := a0p c382 H; have c382b0 : (a1.toList == ([108, 105, 110, 107] : List UInt8)) = true := beq_iff_eq.mpr c382; have c382b1 : (a1.toList != ([108, 105, 110, 107] : List UInt8)) = false := bne_eq_false_iff_eq.mpr c382; have Kc382 := Aside0.mk c382; clear c382; have BK375 := Aside0.mk (pe_box0 w #[.string a0_0, .slice A0_1 l0_1.length c0_1, .slice A0_2 l0_2.length c0_2, .int .i64 a0_3, .slice A0_4 l0_4.length c0_4, .slice A0_5 l0_5.length c0_5, .slice A0_6 l0_6.length c0_6] 30); replace HB := Aside0.mk (below_alloc HB.out (.cells #[.string a0_0, .slice A0_1 l0_1.length c0_1, .slice A0_2 l0_2.length c0_2, .int .i64 a0_3, .slice A0_4 l0_4.length c0_4, .slice A0_5 l0_5.length c0_5, .slice A0_6 l0_6.length c0_6] 30)); obtain ⟨t259, q383, H1⟩ := a0b H; clear H; have H := H1; clear H1; go_wp2_with fail; (with_reducible refine (book_Link_62__63.calls _ _ l0_5 t259 _ (Kd.C_below HR0_5.out HB.out) HC0_5.out q383.out).mono ?_); clear q383; (rintro e w384 ⟨v_384, rfl, ho, hb⟩); have HO261 := Aside0.mk (Kd.R_lower ho (HB.out : Below _ _ _).size); obtain ⟨A_HO261, c_HO261, e_HO261⟩ := Kd.R_slice HO261.out; subst e_HO261; clear ho; replace HB := Aside0.mk (below_step HB.out hb); replace BK375 := Aside0.mk (blk_below BK375.out hb); clear hb; have Z375 := blk7 BK375.out; obtain rfl := Option.some.inj H.out; go_wp2; go_ret; exact ⟨_, rfl, HO261.out, HB.out⟩
     · replace H := a0n c382 H; have c382b0 : (a1.toList == ([108, 105, 110, 107] : List UInt8)) = false := beq_eq_false_iff_ne.mpr c382; have c382b1 : (a1.toList != ([108, 105, 110, 107] : List UInt8)) = true := bne_iff_ne.mpr c382; have Kc382 := Aside0.mk c382; clear c382; have BK375 := Aside0.mk (pe_box0 w #[.string a0_0, .slice A0_1 l0_1.length c0_1, .slice A0_2 l0_2.length c0_2, .int .i64 a0_3, .slice A0_4 l0_4.length c0_4, .slice A0_5 l0_5.length c0_5, .slice A0_6 l0_6.length c0_6] 30); replace HB := Aside0.mk (below_alloc HB.out (.cells #[.string a0_0, .slice A0_1 l0_1.length c0_1, .slice A0_2 l0_2.length c0_2, .int .i64 a0_3, .slice A0_4 l0_4.length c0_4, .slice A0_5 l0_5.length c0_5, .slice A0_6 l0_6.length c0_6] 30)); obtain rfl := Option.some.inj H.out; go_wp2; go_ret; exact ⟨_, rfl, Kd.R_nil _ _ _ _ _, HB.out⟩

/-! ### slices_Index_string_string: function 64 -/
def slices_Index_string_string.l0 : Nat → List ByteArray → ByteArray → Int → Int → Option (Int)
 | 0, _, _, _, _ => none
 | k + 1, x0, x1, x7, x8 => if x8 < x7 then (if 0 ≤ x8 then (if x8 < (x0.length : Int) then (if x1.toList = (rdOf ByteArray.empty x0 x8).toList then (some x8) else (slices_Index_string_string.l0 k x0 x1 x7 (wrap64 (x8 + 1)))) else (none)) else (none)) else (some (-1))
def slices_Index_string_string.f (k : Nat) (l0 : List ByteArray) (a1 : ByteArray) : Option (Int) := slices_Index_string_string.l0 k l0 a1 (l0.length : Int) 0
theorem slices_Index_string_string.mono_l : ∀ k, (∀ y0 y1 y2 y3, LeO (slices_Index_string_string.l0 k y0 y1 y2 y3) (slices_Index_string_string.l0 (k + 1) y0 y1 y2 y3))
 | 0 => fun _ _ _ _ r h => by simp [slices_Index_string_string.l0] at h
 | k + 1 => by
  have ih0 := slices_Index_string_string.mono_l k
  ·
   intro y0 y1 y2 y3
   unfold slices_Index_string_string.l0
   repeat' first | (with_reducible apply ih0) | (with_reducible exact LeO.refl _) | (with_reducible exact LeO.none _) | (with_reducible refine LeO.ite ?_ ?_) | (with_reducible refine LeO.bind ?_ (fun _ => ?_)) | apply LeO.none | apply LeO.ite | (refine LeO.bind ?_ (fun _ => ?_))
theorem slices_Index_string_string.mono : ∀ a0 a1 k, LeO (slices_Index_string_string.f k a0 a1) (slices_Index_string_string.f (k + 1) a0 a1) := by
 intro a0 a1 k
 have ih0 := slices_Index_string_string.mono_l k
 unfold slices_Index_string_string.f
 repeat' first | (with_reducible apply ih0) | (with_reducible exact LeO.refl _) | (with_reducible exact LeO.none _) | (with_reducible refine LeO.ite ?_ ?_) | (with_reducible refine LeO.bind ?_ (fun _ => ?_)) | apply LeO.none | apply LeO.ite | (refine LeO.bind ?_ (fun _ => ?_))
set_option maxHeartbeats 8000000 in
set_option maxRecDepth 100000 in
theorem slices_Index_string_string.calls (k : Nat) (A0 : Option Addr) (c0 : Nat) (l0 : List ByteArray) (a1 : ByteArray) (r : Int) (w : World) (hr0 : Kd.C Kd.string w A0 l0.length l0) (hc0 : l0.length ≤ c0) (h : slices_Index_string_string.f k l0 a1 = some r) :
  Calls Tryz.prog 64 #[.slice A0 l0.length c0, .string a1] w fun e w' => e = .returned (.int .i64 r) ∧ Drawn0 w w' := by
 have HR0 := Aside0.mk hr0
 have HC0 := Aside0.mk hc0
 clear hr0 hc0
 have H : (slices_Index_string_string.l0 k l0 a1 (l0.length : Int) 0) = some r := h
 clear h
 have H' := Aside0.mk H
 clear H
 go_enter Tryz.func64, Tryz.ntmps64
 go_wp2
 go_loopg [8] k (fun kq v8 w' => ∃ (x8_1 : Int), v8 = .int .i64 x8_1 ∧ Aside0 (slices_Index_string_string.l0 kq l0 a1 (l0.length : Int) x8_1 = some r) ∧ Aside0 (kq ≤ k) ∧ Drawn0 w w')
 case atStart => exact ⟨(0), (by first | rfl | (simp; done) | (simp [*]; done)), H', ⟨Nat.le_refl _⟩, by repeat (first | exact Drawn0.refl _ | apply Drawn0.step)⟩
 case round =>
  clear H'
  try clear p2
  obtain ⟨x8_1, rfl, HA, HK1, ⟨m1, rfl⟩⟩ := hrel
  cases gk with
  | zero => exact absurd HA.out (by simp [slices_Index_string_string.l0])
  | succ k1 =>
   have H := HA.out
   clear HA
   simp only [slices_Index_string_string.l0] at H
   by_cases c3 : x8_1 < (l0.length : Int)
   ·
    rw [if_pos c3] at H
    have c3b0 : decide (x8_1 < (l0.length : Int)) = true := decide_eq_true c3
    clear c3
    by_cases c4 : 0 ≤ x8_1
    ·
     rw [if_pos c4] at H
     have c4b0 : decide (0 ≤ x8_1) = true := decide_eq_true c4
     clear c4
     by_cases c5 : x8_1 < (l0.length : Int)
     ·
      rw [if_pos c5] at H
      have c5b0 : decide (x8_1 < (l0.length : Int)) = true := decide_eq_true c5
      clear c5
      by_cases c6 : a1.toList = (rdOf ByteArray.empty l0 x8_1).toList
      ·
       rw [if_pos c6] at H
       have c6b0 : (a1.toList == (rdOf ByteArray.empty l0 x8_1).toList) = true := beq_iff_eq.mpr c6
       have c6b1 : (a1.toList != (rdOf ByteArray.empty l0 x8_1).toList) = false := bne_eq_false_iff_eq.mpr c6
       clear c6
       obtain rfl := Option.some.inj H
       have p262 : 0 ≤ (x8_1 : Int) := of_decide_eq_true (by first | (with_reducible assumption) | assumption)
       have q262 : x8_1 < (l0.length : Int) := of_decide_eq_true (by first | (with_reducible assumption) | assumption)
       obtain ⟨ad262, e262, hx262_0⟩ := Kd.at_string HR0.out x8_1 p262 q262
       cases e262
       replace p262 := eq_true p262
       replace q262 := eq_true q262
       go_wp2
       go_ret
       exact ⟨by first | rfl | (simp; done) | (simp [*]; done), by repeat (first | exact Drawn0.refl _ | apply Drawn0.step)⟩
      ·
       rw [if_neg c6] at H
       have c6b0 : (a1.toList == (rdOf ByteArray.empty l0 x8_1).toList) = false := beq_eq_false_iff_ne.mpr c6
       have c6b1 : (a1.toList != (rdOf ByteArray.empty l0 x8_1).toList) = true := bne_iff_ne.mpr c6
       have H' := Aside0.mk H
       clear H
       have p262 : 0 ≤ (x8_1 : Int) := of_decide_eq_true (by first | (with_reducible assumption) | assumption)
       have q262 : x8_1 < (l0.length : Int) := of_decide_eq_true (by first | (with_reducible assumption) | assumption)
       obtain ⟨ad262, e262, hx262_0⟩ := Kd.at_string HR0.out x8_1 p262 q262
       cases e262
       replace p262 := eq_true p262
       replace q262 := eq_true q262
       go_wp2
       go_roundg k1
       case measure => have := HK1.out; omega
       case rel => exact ⟨(wrap64 (x8_1 + 1)), (by first | rfl | (simp; done) | (simp [*]; done)), H', ⟨by have := HK1.out; omega⟩, by repeat (first | exact Drawn0.refl _ | apply Drawn0.step)⟩
     ·
      rw [if_neg c5] at H
      exact absurd H (by simp)
    ·
     rw [if_neg c4] at H
     exact absurd H (by simp)
   ·
    rw [if_neg c3] at H
    have c3b0 : decide (x8_1 < (l0.length : Int)) = false := decide_eq_false c3
    clear c3
    obtain rfl := Option.some.inj H
    go_wp2
    go_ret
    exact ⟨by first | rfl | (simp; done) | (simp [*]; done), by repeat (first | exact Drawn0.refl _ | apply Drawn0.step)⟩

/-! ### book_Module_Find: function 22 -/
def book_Module_Find.f (k : Nat) (a0_0 : ByteArray) (l0_1 : List (S52)) (l0_2 : List (S67)) (a0_3 : Int) (l0_4 : List (S74)) (l0_5 : List (S77)) (l0_6 : List (S64)) (a1 : ByteArray) (a2 : ByteArray) : Option (Int) := (book_Module_Names.f a0_0 l0_1 l0_2 a0_3 l0_4 l0_5 l0_6 a1).bind fun t264 => ((slices_Index_string_string.f k t264 a2).bind fun t267 => (some t267))
theorem book_Module_Find.mono : ∀ a0 a1 a2 a3 a4 a5 a6 a7 a8 k, LeO (book_Module_Find.f k a0 a1 a2 a3 a4 a5 a6 a7 a8) (book_Module_Find.f (k + 1) a0 a1 a2 a3 a4 a5 a6 a7 a8) := by
  intro a0 a1 a2 a3 a4 a5 a6 a7 a8 k
  unfold book_Module_Find.f
  repeat' first | (with_reducible apply slices_Index_string_string.mono) | (with_reducible exact LeO.refl _) | (with_reducible exact LeO.none _) | (with_reducible refine LeO.ite ?_ ?_) | (with_reducible refine LeO.bind ?_ (fun _ => ?_)) | apply LeO.none | apply LeO.ite | (refine LeO.bind ?_ (fun _ => ?_))
set_option maxHeartbeats 8000000 in
set_option maxRecDepth 100000 in
theorem book_Module_Find.calls (k : Nat) (a0_0 : ByteArray) (A0_1 : Option Addr) (c0_1 : Nat) (l0_1 : List (S52)) (A0_2 : Option Addr) (c0_2 : Nat) (l0_2 : List (S67)) (a0_3 : Int) (A0_4 : Option Addr) (c0_4 : Nat) (l0_4 : List (S74)) (A0_5 : Option Addr) (c0_5 : Nat) (l0_5 : List (S77)) (A0_6 : Option Addr) (c0_6 : Nat) (l0_6 : List (S64)) (a1 : ByteArray) (a2 : ByteArray) (r : Int) (w : World) (hr0_1 : Kd.C k52 w A0_1 l0_1.length l0_1) (hc0_1 : l0_1.length ≤ c0_1) (hr0_2 : Kd.C k67 w A0_2 l0_2.length l0_2) (hc0_2 : l0_2.length ≤ c0_2) (hr0_4 : Kd.C k74 w A0_4 l0_4.length l0_4) (hc0_4 : l0_4.length ≤ c0_4) (hr0_5 : Kd.C k77 w A0_5 l0_5.length l0_5) (hc0_5 : l0_5.length ≤ c0_5) (hr0_6 : Kd.C k64 w A0_6 l0_6.length l0_6) (hc0_6 : l0_6.length ≤ c0_6) (h : book_Module_Find.f k a0_0 l0_1 l0_2 a0_3 l0_4 l0_5 l0_6 a1 a2 = some r) :
    Calls Tryz.prog 22 #[.agg #[.string a0_0, .slice A0_1 l0_1.length c0_1, .slice A0_2 l0_2.length c0_2, .int .i64 a0_3, .slice A0_4 l0_4.length c0_4, .slice A0_5 l0_5.length c0_5, .slice A0_6 l0_6.length c0_6], .string a1, .string a2] w fun e w' => e = .returned (.int .i64 r) ∧ Below w.heap.size w w' := by
 have HR0_1 := Aside0.mk hr0_1; have HC0_1 := Aside0.mk hc0_1; clear hr0_1 hc0_1; have HR0_2 := Aside0.mk hr0_2; have HC0_2 := Aside0.mk hc0_2; clear hr0_2 hc0_2; have HR0_4 := Aside0.mk hr0_4; have HC0_4 := Aside0.mk hc0_4; clear hr0_4 hc0_4; have HR0_5 := Aside0.mk hr0_5; have HC0_5 := Aside0.mk hc0_5; clear hr0_5 hc0_5; have HR0_6 := Aside0.mk hr0_6; have HC0_6 := Aside0.mk hc0_6; clear hr0_6 hc0_6; unfold book_Module_Find.f at h; have H := Aside0.mk h; clear h; have HB := Aside0.mk (Below.refl w.heap.size w); have hu30 := Tryz.underlying30; go_enter Tryz.func22, Tryz.ntmps22; have BK389 := Aside0.mk (pe_box0 w #[.string a0_0, .slice A0_1 l0_1.length c0_1, .slice A0_2 l0_2.length c0_2, .int .i64 a0_3, .slice A0_4 l0_4.length c0_4, .slice A0_5 l0_5.length c0_5, .slice A0_6 l0_6.length c0_6] 30); replace HB := Aside0.mk (below_alloc HB.out (.cells #[.string a0_0, .slice A0_1 l0_1.length c0_1, .slice A0_2 l0_2.length c0_2, .int .i64 a0_3, .slice A0_4 l0_4.length c0_4, .slice A0_5 l0_5.length c0_5, .slice A0_6 l0_6.length c0_6] 30)); obtain ⟨t264, q390, H1⟩ := a0b H; clear H; have H := H1; clear H1; go_wp2_with fail; (with_reducible refine (book_Module_Names.calls a0_0 _ _ l0_1 _ _ l0_2 a0_3 _ _ l0_4 _ _ l0_5 _ _ l0_6 a1 t264 _ (Kd.C_below HR0_1.out HB.out) HC0_1.out (Kd.C_below HR0_2.out HB.out) HC0_2.out (Kd.C_below HR0_4.out HB.out) HC0_4.out (Kd.C_below HR0_5.out HB.out) HC0_5.out (Kd.C_below HR0_6.out HB.out) HC0_6.out q390.out).mono ?_); clear q390; (rintro e w391 ⟨v_391, rfl, ho, hb⟩); have HO266 := Aside0.mk (Kd.R_lower ho (HB.out : Below _ _ _).size); obtain ⟨A_HO266, c_HO266, e_HO266⟩ := Kd.R_slice HO266.out; subst e_HO266; clear ho; replace HB := Aside0.mk (below_step HB.out hb); replace BK389 := Aside0.mk (blk_below BK389.out hb); clear hb; have Z389 := blk7 BK389.out; obtain ⟨t267, q392, H1⟩ := a0b H; clear H; have H := H1; clear H1; go_wp2_with fail; ((with_reducible refine (slices_Index_string_string.calls k _ _ t264 a2 t267 _ (by repeat (first | exact (Kd.R_reads' HO266.out).2.2 | (with_reducible refine Kd.C_drewN ?_ _) | (with_reducible refine Kd.C_drew ?_))) (Kd.R_reads' HO266.out).2.1 q392.out).mono ?_)); clear q392; (rintro e w393 ⟨rfl, hd⟩); have hb := hd.below; clear hd; (replace HO266 := Aside0.mk (Kd.R_below (by repeat (first | exact HO266.out | apply Kd.R_drewN | apply Kd.R_drew)) hb)); replace HB := Aside0.mk (below_step HB.out hb); replace BK389 := Aside0.mk (blk_below BK389.out hb); clear hb
 try clear Z389
 have Z389 := blk7 BK389.out; obtain rfl := Option.some.inj H.out; go_wp2; go_ret; exact ⟨by first | rfl | (simp; done) | (simp [*]; done), HB.out⟩

/-! ### book_Partition_Names_1: function 66 -/
def book_Partition_Names_1.f (a0_0 : ByteArray) (a0_1 : Int) (a0_2 : Int) (a0_3 : Bool) (a0_4 : Bool) (a0_5 : Bool) : Option (ByteArray) := some a0_0
set_option maxHeartbeats 8000000 in
set_option maxRecDepth 100000 in
theorem book_Partition_Names_1.calls (a0_0 : ByteArray) (a0_1 : Int) (a0_2 : Int) (a0_3 : Bool) (a0_4 : Bool) (a0_5 : Bool) (r : ByteArray) (w : World) (h : book_Partition_Names_1.f a0_0 a0_1 a0_2 a0_3 a0_4 a0_5 = some r) :
  Calls Tryz.prog 66 #[.agg #[.string a0_0, .int .i64 a0_1, .int .i64 a0_2, .bool a0_3, .bool a0_4, .bool a0_5]] w fun e w' => e = .returned (.string r) ∧ Below w.heap.size w w' := by
 have hu62 := Tryz.underlying62
 have HB := Aside0.mk (Below.refl w.heap.size w)
 have H : (some a0_0) = some r := h
 clear h
 obtain rfl := Option.some.inj H
 go_enter Tryz.func66, Tryz.ntmps66
 go_wp2_with (first | ((with_reducible refine gate_dst (N := 1) rfl ?_); refine box_event ?hg (N := 1) ?hd (cs := #[.string a0_0, .int .i64 a0_1, .int .i64 a0_2, .bool a0_3, .bool a0_4, .bool a0_5]) (t := 62) ?hr ?_; (case hd => rfl); (case hg => rfl); (case hr => first | (go_simp; done) | (go_simp; rfl)); intro gb268 hg w2 hbox hb; have n0_ := Aside0.mk (below_step (by repeat (first | (with_reducible first | exact HB.out | apply below_alloc | apply pw_below_drewN | apply below_drew1) | exact HB.out)) hb); have n1_ := Aside0.mk (hbox); have n2_ := Aside0.mk ((by rw [hg]; exact (below_size (by repeat (first | (with_reducible first | exact HB.out | apply below_alloc | apply pw_below_drewN | apply below_drew1) | exact HB.out))) : w.heap.size ≤ gb268)); have n3_ := Aside0.mk ((by rw [hg]; exact (below_size (by repeat (first | (with_reducible first | exact HB.out | apply below_alloc | apply pw_below_drewN | apply below_drew1) | exact HB.out))) : w.heap.size ≤ gb268)); clear HB; have HB := n0_; have BK268 := n1_; have GW268 := n2_; have GE268 := n3_; clear n0_ n1_ n2_ n3_; clear hb hbox hg; obtain ⟨hcz3_0, hcz3_1, hcz3_2, hcz3_3, hcz3_4, hcz3_5, hfz3_0, hfz3_1, hfz3_2, hfz3_3, hfz3_4, hfz3_5⟩ := blk6 BK268.out))
 go_ret
 exact ⟨by first | rfl | (simp [errW_none, errW_some] <;> rfl) | (simp [*, errW_none, errW_some] <;> rfl), by repeat (first | (with_reducible first | exact HB.out | apply below_alloc | apply pw_below_drewN | apply below_drew1 | refine below_set ?_ GE268.out) | exact HB.out)⟩

/-! ### book_Partition_Names_2: function 68 -/
def book_Partition_Names_2.f (a0_0 : ByteArray) (a0_1 : Int) (a0_2 : Int) (a0_3 : Int) (a0_4 : Int) (a0_5 : Int) (a0_6 : Int) (a0_7 : Int) : Option (ByteArray) := some a0_0
set_option maxHeartbeats 8000000 in
set_option maxRecDepth 100000 in
theorem book_Partition_Names_2.calls (a0_0 : ByteArray) (a0_1 : Int) (a0_2 : Int) (a0_3 : Int) (a0_4 : Int) (a0_5 : Int) (a0_6 : Int) (a0_7 : Int) (r : ByteArray) (w : World) (h : book_Partition_Names_2.f a0_0 a0_1 a0_2 a0_3 a0_4 a0_5 a0_6 a0_7 = some r) :
  Calls Tryz.prog 68 #[.agg #[.string a0_0, .int .i64 a0_1, .int .i64 a0_2, .int .i64 a0_3, .int .i64 a0_4, .int .i64 a0_5, .int .i64 a0_6, .int .i64 a0_7]] w fun e w' => e = .returned (.string r) ∧ Below w.heap.size w w' := by
 have hu109 := Tryz.underlying109
 have HB := Aside0.mk (Below.refl w.heap.size w)
 have H : (some a0_0) = some r := h
 clear h
 obtain rfl := Option.some.inj H
 go_enter Tryz.func68, Tryz.ntmps68
 go_wp2_with (first | ((with_reducible refine gate_dst (N := 1) rfl ?_); refine box_event ?hg (N := 1) ?hd (cs := #[.string a0_0, .int .i64 a0_1, .int .i64 a0_2, .int .i64 a0_3, .int .i64 a0_4, .int .i64 a0_5, .int .i64 a0_6, .int .i64 a0_7]) (t := 109) ?hr ?_; (case hd => rfl); (case hg => rfl); (case hr => first | (go_simp; done) | (go_simp; rfl)); intro gb269 hg w2 hbox hb; have n0_ := Aside0.mk (below_step (by repeat (first | (with_reducible first | exact HB.out | apply below_alloc | apply pw_below_drewN | apply below_drew1) | exact HB.out)) hb); have n1_ := Aside0.mk (hbox); have n2_ := Aside0.mk ((by rw [hg]; exact (below_size (by repeat (first | (with_reducible first | exact HB.out | apply below_alloc | apply pw_below_drewN | apply below_drew1) | exact HB.out))) : w.heap.size ≤ gb269)); have n3_ := Aside0.mk ((by rw [hg]; exact (below_size (by repeat (first | (with_reducible first | exact HB.out | apply below_alloc | apply pw_below_drewN | apply below_drew1) | exact HB.out))) : w.heap.size ≤ gb269)); clear HB; have HB := n0_; have BK269 := n1_; have GW269 := n2_; have GE269 := n3_; clear n0_ n1_ n2_ n3_; clear hb hbox hg; obtain ⟨hcz3_0, hcz3_1, hcz3_2, hcz3_3, hcz3_4, hcz3_5, hcz3_6, hcz3_7, hfz3_0, hfz3_1, hfz3_2, hfz3_3, hfz3_4, hfz3_5, hfz3_6, hfz3_7⟩ := blk8 BK269.out))
 go_ret
 exact ⟨by first | rfl | (simp [errW_none, errW_some] <;> rfl) | (simp [*, errW_none, errW_some] <;> rfl), by repeat (first | (with_reducible first | exact HB.out | apply below_alloc | apply pw_below_drewN | apply below_drew1 | refine below_set ?_ GE269.out) | exact HB.out)⟩

/-! ### book_Partition_Names_3: function 70 -/
def book_Partition_Names_3.f (a0_0 : ByteArray) (a0_1 : Int) : Option (ByteArray) := some a0_0
set_option maxHeartbeats 8000000 in
set_option maxRecDepth 100000 in
theorem book_Partition_Names_3.calls (a0_0 : ByteArray) (a0_1 : Int) (r : ByteArray) (w : World) (h : book_Partition_Names_3.f a0_0 a0_1 = some r) :
  Calls Tryz.prog 70 #[.agg #[.string a0_0, .int .i64 a0_1]] w fun e w' => e = .returned (.string r) ∧ Below w.heap.size w w' := by
 have hu111 := Tryz.underlying111
 have HB := Aside0.mk (Below.refl w.heap.size w)
 have H : (some a0_0) = some r := h
 clear h
 obtain rfl := Option.some.inj H
 go_enter Tryz.func70, Tryz.ntmps70
 go_wp2_with (first | ((with_reducible refine gate_dst (N := 1) rfl ?_); refine box_event ?hg (N := 1) ?hd (cs := #[.string a0_0, .int .i64 a0_1]) (t := 111) ?hr ?_; (case hd => rfl); (case hg => rfl); (case hr => first | (go_simp; done) | (go_simp; rfl)); intro gb270 hg w2 hbox hb; have n0_ := Aside0.mk (below_step (by repeat (first | (with_reducible first | exact HB.out | apply below_alloc | apply pw_below_drewN | apply below_drew1) | exact HB.out)) hb); have n1_ := Aside0.mk (hbox); have n2_ := Aside0.mk ((by rw [hg]; exact (below_size (by repeat (first | (with_reducible first | exact HB.out | apply below_alloc | apply pw_below_drewN | apply below_drew1) | exact HB.out))) : w.heap.size ≤ gb270)); have n3_ := Aside0.mk ((by rw [hg]; exact (below_size (by repeat (first | (with_reducible first | exact HB.out | apply below_alloc | apply pw_below_drewN | apply below_drew1) | exact HB.out))) : w.heap.size ≤ gb270)); clear HB; have HB := n0_; have BK270 := n1_; have GW270 := n2_; have GE270 := n3_; clear n0_ n1_ n2_ n3_; clear hb hbox hg; obtain ⟨hcz3_0, hcz3_1, hfz3_0, hfz3_1⟩ := blk2 BK270.out))
 go_ret
 exact ⟨by first | rfl | (simp [errW_none, errW_some] <;> rfl) | (simp [*, errW_none, errW_some] <;> rfl), by repeat (first | (with_reducible first | exact HB.out | apply below_alloc | apply pw_below_drewN | apply below_drew1 | refine below_set ?_ GE270.out) | exact HB.out)⟩

/-! ### book_Partition_Names_4: function 72 -/
def book_Partition_Names_4.f (a0_0 : ByteArray) (a0_1 : Int) (a0_2 : Int) (a0_3 : Bool) : Option (ByteArray) := some a0_0
set_option maxHeartbeats 8000000 in
set_option maxRecDepth 100000 in
theorem book_Partition_Names_4.calls (a0_0 : ByteArray) (a0_1 : Int) (a0_2 : Int) (a0_3 : Bool) (r : ByteArray) (w : World) (h : book_Partition_Names_4.f a0_0 a0_1 a0_2 a0_3 = some r) :
  Calls Tryz.prog 72 #[.agg #[.string a0_0, .int .i64 a0_1, .int .i64 a0_2, .bool a0_3]] w fun e w' => e = .returned (.string r) ∧ Below w.heap.size w w' := by
 have hu113 := Tryz.underlying113
 have HB := Aside0.mk (Below.refl w.heap.size w)
 have H : (some a0_0) = some r := h
 clear h
 obtain rfl := Option.some.inj H
 go_enter Tryz.func72, Tryz.ntmps72
 go_wp2_with (first | ((with_reducible refine gate_dst (N := 1) rfl ?_); refine box_event ?hg (N := 1) ?hd (cs := #[.string a0_0, .int .i64 a0_1, .int .i64 a0_2, .bool a0_3]) (t := 113) ?hr ?_; (case hd => rfl); (case hg => rfl); (case hr => first | (go_simp; done) | (go_simp; rfl)); intro gb271 hg w2 hbox hb; have n0_ := Aside0.mk (below_step (by repeat (first | (with_reducible first | exact HB.out | apply below_alloc | apply pw_below_drewN | apply below_drew1) | exact HB.out)) hb); have n1_ := Aside0.mk (hbox); have n2_ := Aside0.mk ((by rw [hg]; exact (below_size (by repeat (first | (with_reducible first | exact HB.out | apply below_alloc | apply pw_below_drewN | apply below_drew1) | exact HB.out))) : w.heap.size ≤ gb271)); have n3_ := Aside0.mk ((by rw [hg]; exact (below_size (by repeat (first | (with_reducible first | exact HB.out | apply below_alloc | apply pw_below_drewN | apply below_drew1) | exact HB.out))) : w.heap.size ≤ gb271)); clear HB; have HB := n0_; have BK271 := n1_; have GW271 := n2_; have GE271 := n3_; clear n0_ n1_ n2_ n3_; clear hb hbox hg; obtain ⟨hcz3_0, hcz3_1, hcz3_2, hcz3_3, hfz3_0, hfz3_1, hfz3_2, hfz3_3⟩ := blk4 BK271.out))
 go_ret
 exact ⟨by first | rfl | (simp [errW_none, errW_some] <;> rfl) | (simp [*, errW_none, errW_some] <;> rfl), by repeat (first | (with_reducible first | exact HB.out | apply below_alloc | apply pw_below_drewN | apply below_drew1 | refine below_set ?_ GE271.out) | exact HB.out)⟩

/-! ### book_Partition_Names_5: function 74 -/
def book_Partition_Names_5.f (a0_0 : ByteArray) : Option (ByteArray) := some a0_0
set_option maxHeartbeats 8000000 in
set_option maxRecDepth 100000 in
theorem book_Partition_Names_5.calls (a0_0 : ByteArray) (r : ByteArray) (w : World) (h : book_Partition_Names_5.f a0_0 = some r) :
  Calls Tryz.prog 74 #[.agg #[.string a0_0]] w fun e w' => e = .returned (.string r) ∧ Below w.heap.size w w' := by
 have hu115 := Tryz.underlying115
 have HB := Aside0.mk (Below.refl w.heap.size w)
 have H : (some a0_0) = some r := h
 clear h
 obtain rfl := Option.some.inj H
 go_enter Tryz.func74, Tryz.ntmps74
 go_wp2_with (first | ((with_reducible refine gate_dst (N := 1) rfl ?_); refine box_event ?hg (N := 1) ?hd (cs := #[.string a0_0]) (t := 115) ?hr ?_; (case hd => rfl); (case hg => rfl); (case hr => first | (go_simp; done) | (go_simp; rfl)); intro gb272 hg w2 hbox hb; have n0_ := Aside0.mk (below_step (by repeat (first | (with_reducible first | exact HB.out | apply below_alloc | apply pw_below_drewN | apply below_drew1) | exact HB.out)) hb); have n1_ := Aside0.mk (hbox); have n2_ := Aside0.mk ((by rw [hg]; exact (below_size (by repeat (first | (with_reducible first | exact HB.out | apply below_alloc | apply pw_below_drewN | apply below_drew1) | exact HB.out))) : w.heap.size ≤ gb272)); have n3_ := Aside0.mk ((by rw [hg]; exact (below_size (by repeat (first | (with_reducible first | exact HB.out | apply below_alloc | apply pw_below_drewN | apply below_drew1) | exact HB.out))) : w.heap.size ≤ gb272)); clear HB; have HB := n0_; have BK272 := n1_; have GW272 := n2_; have GE272 := n3_; clear n0_ n1_ n2_ n3_; clear hb hbox hg; have hcz3_0 : w2.cell? ⟨gb272, 0, none⟩ = some (.string a0_0) := (blk_cell BK272.out 0).trans rfl; have hfz3_0 := blk_frozen BK272.out 0))
 go_ret
 exact ⟨by first | rfl | (simp [errW_none, errW_some] <;> rfl) | (simp [*, errW_none, errW_some] <;> rfl), by repeat (first | (with_reducible first | exact HB.out | apply below_alloc | apply pw_below_drewN | apply below_drew1 | refine below_set ?_ GE272.out) | exact HB.out)⟩

/-! ### book_Partition_Names_6: function 76 -/
def book_Partition_Names_6.f (a0_0 : ByteArray) (a0_1 : Int) : Option (ByteArray) := some a0_0
set_option maxHeartbeats 8000000 in
set_option maxRecDepth 100000 in
theorem book_Partition_Names_6.calls (a0_0 : ByteArray) (a0_1 : Int) (r : ByteArray) (w : World) (h : book_Partition_Names_6.f a0_0 a0_1 = some r) :
  Calls Tryz.prog 76 #[.agg #[.string a0_0, .int .i64 a0_1]] w fun e w' => e = .returned (.string r) ∧ Below w.heap.size w w' := by
 have hu117 := Tryz.underlying117
 have HB := Aside0.mk (Below.refl w.heap.size w)
 have H : (some a0_0) = some r := h
 clear h
 obtain rfl := Option.some.inj H
 go_enter Tryz.func76, Tryz.ntmps76
 go_wp2_with (first | ((with_reducible refine gate_dst (N := 1) rfl ?_); refine box_event ?hg (N := 1) ?hd (cs := #[.string a0_0, .int .i64 a0_1]) (t := 117) ?hr ?_; (case hd => rfl); (case hg => rfl); (case hr => first | (go_simp; done) | (go_simp; rfl)); intro gb273 hg w2 hbox hb; have n0_ := Aside0.mk (below_step (by repeat (first | (with_reducible first | exact HB.out | apply below_alloc | apply pw_below_drewN | apply below_drew1) | exact HB.out)) hb); have n1_ := Aside0.mk (hbox); have n2_ := Aside0.mk ((by rw [hg]; exact (below_size (by repeat (first | (with_reducible first | exact HB.out | apply below_alloc | apply pw_below_drewN | apply below_drew1) | exact HB.out))) : w.heap.size ≤ gb273)); have n3_ := Aside0.mk ((by rw [hg]; exact (below_size (by repeat (first | (with_reducible first | exact HB.out | apply below_alloc | apply pw_below_drewN | apply below_drew1) | exact HB.out))) : w.heap.size ≤ gb273)); clear HB; have HB := n0_; have BK273 := n1_; have GW273 := n2_; have GE273 := n3_; clear n0_ n1_ n2_ n3_; clear hb hbox hg; obtain ⟨hcz3_0, hcz3_1, hfz3_0, hfz3_1⟩ := blk2 BK273.out))
 go_ret
 exact ⟨by first | rfl | (simp [errW_none, errW_some] <;> rfl) | (simp [*, errW_none, errW_some] <;> rfl), by repeat (first | (with_reducible first | exact HB.out | apply below_alloc | apply pw_below_drewN | apply below_drew1 | refine below_set ?_ GE273.out) | exact HB.out)⟩

/-! ### book_Partition_Names_7: function 78 -/
def book_Partition_Names_7.f (a0_0 : ByteArray) (a0_1 : Int) (a0_2 : Int) (a0_3 : Bool) : Option (ByteArray) := some a0_0
set_option maxHeartbeats 8000000 in
set_option maxRecDepth 100000 in
theorem book_Partition_Names_7.calls (a0_0 : ByteArray) (a0_1 : Int) (a0_2 : Int) (a0_3 : Bool) (r : ByteArray) (w : World) (h : book_Partition_Names_7.f a0_0 a0_1 a0_2 a0_3 = some r) :
  Calls Tryz.prog 78 #[.agg #[.string a0_0, .int .i64 a0_1, .int .i64 a0_2, .bool a0_3]] w fun e w' => e = .returned (.string r) ∧ Below w.heap.size w w' := by
 have hu119 := Tryz.underlying119
 have HB := Aside0.mk (Below.refl w.heap.size w)
 have H : (some a0_0) = some r := h
 clear h
 obtain rfl := Option.some.inj H
 go_enter Tryz.func78, Tryz.ntmps78
 go_wp2_with (first | ((with_reducible refine gate_dst (N := 1) rfl ?_); refine box_event ?hg (N := 1) ?hd (cs := #[.string a0_0, .int .i64 a0_1, .int .i64 a0_2, .bool a0_3]) (t := 119) ?hr ?_; (case hd => rfl); (case hg => rfl); (case hr => first | (go_simp; done) | (go_simp; rfl)); intro gb274 hg w2 hbox hb; have n0_ := Aside0.mk (below_step (by repeat (first | (with_reducible first | exact HB.out | apply below_alloc | apply pw_below_drewN | apply below_drew1) | exact HB.out)) hb); have n1_ := Aside0.mk (hbox); have n2_ := Aside0.mk ((by rw [hg]; exact (below_size (by repeat (first | (with_reducible first | exact HB.out | apply below_alloc | apply pw_below_drewN | apply below_drew1) | exact HB.out))) : w.heap.size ≤ gb274)); have n3_ := Aside0.mk ((by rw [hg]; exact (below_size (by repeat (first | (with_reducible first | exact HB.out | apply below_alloc | apply pw_below_drewN | apply below_drew1) | exact HB.out))) : w.heap.size ≤ gb274)); clear HB; have HB := n0_; have BK274 := n1_; have GW274 := n2_; have GE274 := n3_; clear n0_ n1_ n2_ n3_; clear hb hbox hg; obtain ⟨hcz3_0, hcz3_1, hcz3_2, hcz3_3, hfz3_0, hfz3_1, hfz3_2, hfz3_3⟩ := blk4 BK274.out))
 go_ret
 exact ⟨by first | rfl | (simp [errW_none, errW_some] <;> rfl) | (simp [*, errW_none, errW_some] <;> rfl), by repeat (first | (with_reducible first | exact HB.out | apply below_alloc | apply pw_below_drewN | apply below_drew1 | refine below_set ?_ GE274.out) | exact HB.out)⟩

/-! ### book_Partition_Names_8: function 80 -/
def book_Partition_Names_8.f (a0_0 : ByteArray) (a0_1 : Bool) (a0_2 : Bool) (a0_3 : Int) (a0_4 : Int) (a0_5 : Int) : Option (ByteArray) := some a0_0
set_option maxHeartbeats 8000000 in
set_option maxRecDepth 100000 in
theorem book_Partition_Names_8.calls (a0_0 : ByteArray) (a0_1 : Bool) (a0_2 : Bool) (a0_3 : Int) (a0_4 : Int) (a0_5 : Int) (r : ByteArray) (w : World) (h : book_Partition_Names_8.f a0_0 a0_1 a0_2 a0_3 a0_4 a0_5 = some r) :
  Calls Tryz.prog 80 #[.agg #[.string a0_0, .bool a0_1, .bool a0_2, .int .i64 a0_3, .int .i64 a0_4, .int .i64 a0_5]] w fun e w' => e = .returned (.string r) ∧ Below w.heap.size w w' := by
 have hu60 := Tryz.underlying60
 have HB := Aside0.mk (Below.refl w.heap.size w)
 have H : (some a0_0) = some r := h
 clear h
 obtain rfl := Option.some.inj H
 go_enter Tryz.func80, Tryz.ntmps80
 go_wp2_with (first | ((with_reducible refine gate_dst (N := 1) rfl ?_); refine box_event ?hg (N := 1) ?hd (cs := #[.string a0_0, .bool a0_1, .bool a0_2, .int .i64 a0_3, .int .i64 a0_4, .int .i64 a0_5]) (t := 60) ?hr ?_; (case hd => rfl); (case hg => rfl); (case hr => first | (go_simp; done) | (go_simp; rfl)); intro gb275 hg w2 hbox hb; have n0_ := Aside0.mk (below_step (by repeat (first | (with_reducible first | exact HB.out | apply below_alloc | apply pw_below_drewN | apply below_drew1) | exact HB.out)) hb); have n1_ := Aside0.mk (hbox); have n2_ := Aside0.mk ((by rw [hg]; exact (below_size (by repeat (first | (with_reducible first | exact HB.out | apply below_alloc | apply pw_below_drewN | apply below_drew1) | exact HB.out))) : w.heap.size ≤ gb275)); have n3_ := Aside0.mk ((by rw [hg]; exact (below_size (by repeat (first | (with_reducible first | exact HB.out | apply below_alloc | apply pw_below_drewN | apply below_drew1) | exact HB.out))) : w.heap.size ≤ gb275)); clear HB; have HB := n0_; have BK275 := n1_; have GW275 := n2_; have GE275 := n3_; clear n0_ n1_ n2_ n3_; clear hb hbox hg; obtain ⟨hcz3_0, hcz3_1, hcz3_2, hcz3_3, hcz3_4, hcz3_5, hfz3_0, hfz3_1, hfz3_2, hfz3_3, hfz3_4, hfz3_5⟩ := blk6 BK275.out))
 go_ret
 exact ⟨by first | rfl | (simp [errW_none, errW_some] <;> rfl) | (simp [*, errW_none, errW_some] <;> rfl), by repeat (first | (with_reducible first | exact HB.out | apply below_alloc | apply pw_below_drewN | apply below_drew1 | refine below_set ?_ GE275.out) | exact HB.out)⟩

/-! ### book_Area_65__66: function 65 at book_Partition_Names_1 -/
def book_Area_65__66.f (l : List (S62)) : Option (List ByteArray) := if l.length < 8796093022208 then (mapO (fun x => book_Partition_Names_1.f (x.f0) (x.f1) (x.f2) (x.f3) (x.f4) (x.f5)) l) else none
set_option maxHeartbeats 4000000 in
set_option maxRecDepth 100000 in
theorem book_Area_65__66.calls (A0 : Option Addr) (c0 : Nat) (l : List (S62)) (r : List ByteArray) (w : World) (hr0 : Kd.C k62 w A0 l.length l) (hc0 : l.length ≤ c0) (h : book_Area_65__66.f l = some r) :
  Calls Tryz.prog 65 #[.slice A0 l.length c0, .func (.func 66) #[] #[]] w fun e w' => ∃ v0_ : Value, e = .returned (v0_) ∧ Kd.R Kd.string 9 w' w.heap.size (fun _ => True) v0_ r ∧ Below w.heap.size w w' := by
 unfold book_Area_65__66.f at h
 obtain ⟨hL, h2⟩ := if_some h
 clear h
 have HL := Aside0.mk hL
 have HR0 := Aside0.mk hr0
 have H0 : Aside0 (∃ m', mapO (fun x => book_Partition_Names_1.f (x.f0) (x.f1) (x.f2) (x.f3) (x.f4) (x.f5)) (l.drop 0) = some m' ∧ r = [] ++ m') := ⟨⟨r, by simpa using h2, rfl⟩⟩
 have hL2 : l.length ≤ 140737488351232 := by omega
 clear hr0 h2 hL
 go_enter Tryz.func65, Tryz.ntmps65
 go_wp2
 go_loopw [5, 10] (fun v5 v10 wr => ∃ (j : Nat) (m : List ByteArray), v10 = .int .i64 (j : Int) ∧ j ≤ l.length ∧ Aside0 (m.length = j) ∧ Aside0 (∃ m', mapO (fun x => book_Partition_Names_1.f (x.f0) (x.f1) (x.f2) (x.f3) (x.f4) (x.f5)) (l.drop j) = some m' ∧ r = m ++ m') ∧ Aside0 (Kd.R Kd.string 9 wr w.heap.size (fun _ => True) v5 m) ∧ Aside0 (Below w.heap.size w wr)) (fun _ v10 _ => l.length - (intOf v10).toNat)
 case atStart => exact ⟨0, [], rfl, Nat.zero_le _, ⟨rfl⟩, H0, ⟨Kd.R_nil _ _ _ _ _⟩, ⟨Below.refl _ _⟩⟩
 case round =>
  clear H0
  obtain ⟨j, m, rfl, hj, HM, HA, HO, HB⟩ := hrel
  by_cases hlt : j < l.length
  ·
   have p7 : (0 : Int) ≤ (j : Int) := by omega
   have q7 : (j : Int) < (l.length : Int) := by omega
   obtain ⟨m1, ha1, ha2⟩ := HA.out
   obtain ⟨b, m2, hb1, hb2, hb3⟩ := mapO_cons hlt ha1
   have HB1 := Aside0.mk hb1
   have HA2 : Aside0 (∃ m', mapO (fun x => book_Partition_Names_1.f (x.f0) (x.f1) (x.f2) (x.f3) (x.f4) (x.f5)) (l.drop (j + 1)) = some m' ∧ r = (m ++ [b]) ++ m') := ⟨⟨m2, hb2, by rw [ha2, hb3]; simp⟩⟩
   clear hb1 hb2 hb3 ha1 ha2 HA
   obtain ⟨ad7, e7, hx7_0, hx7_1, hx7_2, hx7_3, hx7_4, hx7_5⟩ := at_T62 HR0.out (j : Int) p7 q7
   cases e7
   replace hx7_0 := (HB.out.cell (World.block_lt_of_cell? w _ hx7_0)).trans hx7_0
   replace hx7_1 := (HB.out.cell (World.block_lt_of_cell? w _ hx7_1)).trans hx7_1
   replace hx7_2 := (HB.out.cell (World.block_lt_of_cell? w _ hx7_2)).trans hx7_2
   replace hx7_3 := (HB.out.cell (World.block_lt_of_cell? w _ hx7_3)).trans hx7_3
   replace hx7_4 := (HB.out.cell (World.block_lt_of_cell? w _ hx7_4)).trans hx7_4
   replace hx7_5 := (HB.out.cell (World.block_lt_of_cell? w _ hx7_5)).trans hx7_5
   have EX : Aside0 (rd_T62 l (j : Int) = l[j]) := ⟨by show l.getD _ _ = _; rw [Int.toNat_natCast, List.getD_eq_getElem?_getD, List.getElem?_eq_getElem hlt, Option.getD_some]⟩
   clear p7 q7
   generalize rd_T62 l (j : Int) = x at *
   have HC : Aside0 (book_Partition_Names_1.f (x.f0) (x.f1) (x.f2) (x.f3) (x.f4) (x.f5) = some b) := ⟨by rw [EX.out]; exact HB1.out⟩
   clear HB1 EX
   simp only [Int.toNat_natCast] at *
   have HB9 := Aside0.mk (below_alloc HB.out (.cells #[.string (x.f0), .int .i64 (x.f1), .int .i64 (x.f2), .bool (x.f3), .bool (x.f4), .bool (x.f5)] 62))
   have HO9 := Aside0.mk (Kd.R_alloc HO.out (.cells #[.string (x.f0), .int .i64 (x.f1), .int .i64 (x.f2), .bool (x.f3), .bool (x.f4), .bool (x.f5)] 62))
   go_wp2_with fail
   refine (book_Partition_Names_1.calls (x.f0) (x.f1) (x.f2) (x.f3) (x.f4) (x.f5) b _ HC.out).mono ?_
   rintro e w9 ⟨rfl, hb⟩
   have HB10 := Aside0.mk (below_step HB9.out hb)
   have HO10 := Aside0.mk (Kd.R_below HO9.out hb)
   clear hb HB HB9 HO HO9
   go_wp2_with (at_builtin; refine Kd.R_append Kd.string (w0 := w) w.heap.size rfl (.tmp 14) (.tmp 18) 36 9 (.string ⟨#[]⟩) 16 rfl Tryz.underlying36 info9 rfl (by decide) (by omega) _ m b [.string b] (fun _ => True) (fun _ => False) rfl rfl ?aP (fun _ hk => hk.elim) ?aF ?aO ?aB ?aS ?aL ?_; (case aP => exact rfl); (case aB => exact HB10.out); (case aF => exact (fun _ _ => trivial)); (case aO => exact HO10.out); (case aS => exact below_size HB10.out); (case aL => have := HL.out; have := HM.out; omega); intro v11 w11 ho11 hb11 hg hat; have HO11 := Aside0.mk ho11; have HB11 := Aside0.mk hb11; clear ho11 hb11 hg hat)
   go_roundw
   case rel => exact ⟨j + 1, m ++ [b], by go_num, by omega, ⟨by have := HM.out; simp; omega⟩, HA2, HO11, HB11⟩
   case measure => simp [intOf]; omega
  ·
   obtain rfl : j = l.length := by omega
   have hr : m = r := by
    obtain ⟨m1, ha1, ha2⟩ := HA.out
    rw [List.drop_length] at ha1
    simp [mapO] at ha1
    rw [ha2, ha1]; simp
   subst hr
   go_wp2
   go_ret
   exact ⟨_, rfl, HO.out, HB.out⟩

end Go.Proofs.YthpdlgamicmhaaaGreat.PR
